/-
  An image that came in, read off the row's datum: what its slices hold.
-/
import Derived.Test.YtdokeelodcckoaaImgRf
import Derived.Deep.Slices
import Derived.OpenShut
import Derived.Carry
namespace Go.Proofs.Ytdokeelodcckoaa.Im
open Go.RowKit Go.Lib

theorem exists_list {α : Type} {P : Nat → α → Prop} : ∀ (n : Nat), (∀ i, i < n → ∃ a, P i a) → ∃ l : List α, l.length = n ∧ ∀ i (h : i < l.length), P i l[i]
  | 0, _ => ⟨[], rfl, fun i h => by simp at h⟩
  | n + 1, h => by
    obtain ⟨l, h1, h2⟩ := exists_list n (fun i hi => h i (by omega))
    obtain ⟨a, ha⟩ := h n (by omega)
    refine ⟨l ++ [a], by simp [h1], fun i hi => ?_⟩
    by_cases hl : i < l.length
    · rw [List.getElem_append_left hl]; exact h2 i hl
    · have : i = n := by simp at hi; omega
      subst this
      rw [List.getElem_append_right (by omega)]
      simpa using ha
theorem Row.mem {α : Type} {F : Nat → Prop} {w : World} {R : Value → α → Prop} {v : Value} {l : List α} (h : Row F w R v l) {x : α} (hx : x ∈ l) : ∃ c, R c x := by
  obtain ⟨_, _, _, _, h3⟩ := h
  obtain ⟨g, off, _, _, h6⟩ := h3 (fun e => by rw [e] at hx; simp at hx)
  obtain ⟨i, hi, rfl⟩ := List.getElem_of_mem hx
  obtain ⟨c, _, h8⟩ := h6 i hi
  exact ⟨c, h8⟩
theorem RowK.mem {α : Type} {k : Nat} {F : Nat → Prop} {w : World} {R : List Value → α → Prop} {v : Value} {l : List α} (h : RowK k F w R v l) {x : α} (hx : x ∈ l) : ∃ c, R c x := by
  obtain ⟨_, _, _, _, h3⟩ := h
  obtain ⟨g, off, _, _, h6⟩ := h3 (fun e => by rw [e] at hx; simp at hx)
  obtain ⟨i, hi, rfl⟩ := List.getElem_of_mem hx
  obtain ⟨c, _, _, h8⟩ := h6 i hi
  exact ⟨c, h8⟩
theorem len2 {cs : List Value} (h : cs.length = 2) : ∃ c0 c1, cs = [c0, c1] := by
  match cs, h with
  | [c0, c1], _ => exact ⟨c0, c1, rfl⟩
theorem len3 {cs : List Value} (h : cs.length = 3) : ∃ c0 c1 c2, cs = [c0, c1, c2] := by
  match cs, h with
  | [c0, c1, c2], _ => exact ⟨c0, c1, c2, rfl⟩
theorem len4 {cs : List Value} (h : cs.length = 4) : ∃ c0 c1 c2 c3, cs = [c0, c1, c2, c3] := by
  match cs, h with
  | [c0, c1, c2, c3], _ => exact ⟨c0, c1, c2, c3, rfl⟩
theorem len5 {cs : List Value} (h : cs.length = 5) : ∃ c0 c1 c2 c3 c4, cs = [c0, c1, c2, c3, c4] := by
  match cs, h with
  | [c0, c1, c2, c3, c4], _ => exact ⟨c0, c1, c2, c3, c4, rfl⟩
theorem len16 {cs : List Value} (h : cs.length = 16) : ∃ c0 c1 c2 c3 c4 c5 c6 c7 c8 c9 c10 c11 c12 c13 c14 c15, cs = [c0, c1, c2, c3, c4, c5, c6, c7, c8, c9, c10, c11, c12, c13, c14, c15] := by
  match cs, h with
  | [c0, c1, c2, c3, c4, c5, c6, c7, c8, c9, c10, c11, c12, c13, c14, c15], _ => exact ⟨c0, c1, c2, c3, c4, c5, c6, c7, c8, c9, c10, c11, c12, c13, c14, c15, rfl⟩
section
variable {H : Type} {enc : TypeId × Value → H} {w : World} {spare : Nat → Bool} {held : Bool}
abbrev Lt (w : World) (g : Nat) : Prop := g < w.heap.size
theorem rowk_of_trod {α : Type} {k : Nat} (hk : 0 < k) {R : List Value → α → Prop} {T E : TypeId} {fuel : Nat} {cs : List Value} {x : DataW H × List MemPlace} (ht : Try.prog.underlying T = some (.slice E)) (hc : Try.prog.cellsOf E = k)
    (el : ∀ (n : Nat) (cs : List Value) (x : DataW H × List MemPlace), DataW.trod enc Try.prog w 0 spare held n E cs = some x → ∃ a, R cs a)
    (h : DataW.trod enc Try.prog w 0 spare held fuel T cs = some x) : ∃ v l, cs = [v] ∧ RowK k (Lt w) w R v l ∧ ∃ ad cap, v = .slice ad l.length cap ∧ l.length ≤ cap ∧ cap ≤ maxLen := by
  rcases Go.Deep.open_slice ht h with ⟨rfl, _⟩ | ⟨a, len, cap, m, n, D, Pl, rfl, _, hl, hm, hmm, _, hx⟩
  · exact ⟨_, [], rfl, ⟨none, 0, rfl, Nat.zero_le _, fun h => absurd rfl h⟩, none, 0, rfl, Nat.le_refl _, by simp⟩
  · have hlm : len ≤ m := by rw [hmm]; split <;> omega
    rw [hc] at hx
    obtain ⟨l, h1, h2⟩ := exists_list (P := fun i y => ∃ cs', w.cells? 0 (a.add (i * k)) k = some cs' ∧ R cs' y) len (fun i hi => by
      obtain ⟨cs', e1, e2⟩ := hx i (by omega)
      obtain ⟨y, hy⟩ := el n cs' _ e2
      exact ⟨y, cs', e1, hy⟩)
    subst h1
    refine ⟨_, l, rfl, ⟨_, _, rfl, Nat.le_trans hl hm, fun hne => ?_⟩, _, _, rfl, hl, hm⟩
    obtain ⟨g, off, spot⟩ := a
    have hcell0 : ∃ c, w.cell? ⟨g, off, spot⟩ = some c := by
      obtain ⟨cs', e1, _⟩ := h2 0 (List.length_pos_iff.2 hne)
      obtain ⟨_, e3, e4⟩ := World.cells?_some e1
      have := e4 0 hk
      rw [Nat.zero_mul] at this
      exact ⟨cs'[0], by simpa [Addr.add, List.getElem?_eq_getElem (show 0 < cs'.length by omega)] using this⟩
    obtain ⟨c0, hc0⟩ := hcell0
    obtain rfl : spot = none := World.cell?_spot hc0
    refine ⟨g, off, rfl, World.block_lt_of_cell? w _ hc0, fun i hi => ?_⟩
    obtain ⟨cs', e1, e2⟩ := h2 i hi
    obtain ⟨_, e3, e4⟩ := World.cells?_some e1
    refine ⟨cs', e3, fun j c hj => ?_, e2⟩
    have hjk : j < k := by have := (List.getElem?_eq_some_iff.1 hj).1; omega
    have := e4 j hjk
    rw [Addr.add_lit, Addr.add_lit, hj] at this
    exact this
theorem row_of_trod {α : Type} {R : Value → α → Prop} {T E : TypeId} {fuel : Nat} {cs : List Value} {x : DataW H × List MemPlace} (ht : Try.prog.underlying T = some (.slice E)) (hc : Try.prog.cellsOf E = 1)
    (el : ∀ (n : Nat) (cs : List Value) (x : DataW H × List MemPlace), DataW.trod enc Try.prog w 0 spare held n E cs = some x → ∃ c a, cs = [c] ∧ R c a)
    (h : DataW.trod enc Try.prog w 0 spare held fuel T cs = some x) : ∃ v l, cs = [v] ∧ Row (Lt w) w R v l ∧ ∃ ad cap, v = .slice ad l.length cap ∧ l.length ≤ cap ∧ cap ≤ maxLen := by
  obtain ⟨v, l, h1, ⟨ad, cap, h2, h3, h4⟩, h5⟩ := rowk_of_trod (k := 1) (R := fun cs a => ∃ c, cs = [c] ∧ R c a) Nat.one_pos ht hc (fun n cs x h => by
    obtain ⟨c, a, e1, e2⟩ := el n cs x h
    exact ⟨a, c, e1, e2⟩) h
  refine ⟨v, l, h1, ⟨ad, cap, h2, h3, fun hl => ?_⟩, h5⟩
  obtain ⟨g, off, e1, e2, e3⟩ := h4 hl
  refine ⟨g, off, e1, e2, fun i hi => ?_⟩
  obtain ⟨cs', _, e4, c, rfl, e5⟩ := e3 i hi
  exact ⟨c, by simpa using e4 0 c rfl, e5⟩
theorem c3 : Try.prog.cellsOf 3 = 1 := by kernel_rfl
theorem cB : Try.prog.cellsOf 4 = 1 := by kernel_rfl
theorem cS : Try.prog.cellsOf 9 = 1 := by kernel_rfl
theorem cI : Try.prog.cellsOf 42 = 1 := by kernel_rfl
theorem cII : Try.prog.cellsOf 43 = 1 := by kernel_rfl
theorem cBB : Try.prog.cellsOf 44 = 1 := by kernel_rfl
theorem cSS : Try.prog.cellsOf 48 = 1 := by kernel_rfl
theorem cSSS : Try.prog.cellsOf 47 = 1 := by kernel_rfl
theorem cD : Try.prog.cellsOf 46 = 3 := by kernel_rfl
theorem cQ : Try.prog.cellsOf 50 = 5 := by kernel_rfl
theorem cR : Try.prog.cellsOf 52 = 16 := by kernel_rfl
theorem cC : Try.prog.cellsOf 58 = 4 := by kernel_rfl
theorem cRR : Try.prog.cellsOf 22 = 1 := by kernel_rfl
theorem cCC : Try.prog.cellsOf 23 = 1 := by kernel_rfl
theorem cIm : Try.prog.cellsOf 25 = 2 := by kernel_rfl
variable {fuel : Nat} {cs : List Value} {x : DataW H × List MemPlace}
theorem ints_of_trod (h : DataW.trod enc Try.prog w 0 spare held fuel 42 cs = some x) : ∃ v l, cs = [v] ∧ IntsIn (Lt w) w v l := by
  obtain ⟨v, l, h1, h2, _⟩ := row_of_trod (R := IntR) Try.underlying42 c3 (fun n cs x h => by
    obtain ⟨z, e, _⟩ := DataW.trod_int Try.underlying3 h
    exact ⟨_, z, e, rfl⟩) h
  exact ⟨v, l, h1, h2⟩
theorem bools_of_trod (h : DataW.trod enc Try.prog w 0 spare held fuel 44 cs = some x) : ∃ v l, cs = [v] ∧ BoolsIn (Lt w) w v l := by
  obtain ⟨v, l, h1, h2, _⟩ := row_of_trod (R := BoolR) Try.underlying44 cB (fun n cs x h => by
    obtain ⟨z, e, _⟩ := DataW.trod_bool Try.underlying4 h
    exact ⟨_, z, e, rfl⟩) h
  exact ⟨v, l, h1, h2⟩
theorem str_of_trod (h : DataW.trod enc Try.prog w 0 spare held fuel 9 cs = some x) : ∃ l : List B, cs = [.string ⟨l.toArray⟩] ∧ l.length ≤ 9223372036854775807 := by
  obtain ⟨s, e, _, hs⟩ := DataW.trod_string Try.underlying9 h
  unfold maxLen at hs
  exact ⟨s.data.toList, by rw [e], by rw [Array.length_toList]; exact hs⟩
theorem strs_of_trod (h : DataW.trod enc Try.prog w 0 spare held fuel 48 cs = some x) : ∃ v l, cs = [v] ∧ StrsIn (Lt w) w v l ∧ ∀ t ∈ l, t.length ≤ 9223372036854775807 := by
  obtain ⟨v, l, h1, h2, _⟩ := row_of_trod (R := fun c (y : List B) => StrR c y ∧ y.length ≤ 9223372036854775807) Try.underlying48 cS (fun n cs x h => by
    obtain ⟨z, e, hz⟩ := str_of_trod h
    exact ⟨_, z, e, rfl, hz⟩) h
  exact ⟨v, l, h1, h2.frame (fun _ h => h) (fun _ _ _ => rfl) (fun _ _ _ h => h.1), fun t ht => (h2.mem ht).elim fun c h => h.2⟩
theorem rows_of_trod (h : DataW.trod enc Try.prog w 0 spare held fuel 43 cs = some x) : ∃ v l, cs = [v] ∧ RowsIn (Lt w) w v l := by
  obtain ⟨v, l, h1, h2, _⟩ := row_of_trod (R := IntsIn (Lt w) w) Try.underlying43 cI (fun n cs x h => ints_of_trod h) h
  exact ⟨v, l, h1, h2⟩
theorem texts_of_trod (h : DataW.trod enc Try.prog w 0 spare held fuel 47 cs = some x) : ∃ v l, cs = [v] ∧ TextsIn (Lt w) w v l ∧ ∀ t ∈ l, ∀ o ∈ t, o.length ≤ 9223372036854775807 := by
  obtain ⟨v, l, h1, h2, _⟩ := row_of_trod (R := fun c (y : List (List B)) => StrsIn (Lt w) w c y ∧ ∀ o ∈ y, o.length ≤ 9223372036854775807) Try.underlying47 cSS (fun n cs x h => strs_of_trod h) h
  exact ⟨v, l, h1, h2.frame (fun _ h => h) (fun _ _ _ => rfl) (fun _ _ _ h => h.1), fun t ht => (h2.mem ht).elim fun c h => h.2⟩
theorem trod_field {t : TypeId} {fs : Array Field} (ht : Try.prog.underlying t = some (.struct fs)) (h : DataW.trod enc Try.prog w 0 spare held fuel t cs = some x) :
    cs.length = Try.prog.cellsOf t ∧ ∃ n, ∀ (i : Nat) (f : Field), fs[i]? = some f → ∃ y, DataW.trod enc Try.prog w 0 spare held n f.type ((cs.drop f.offset).take (Try.prog.cellsOf f.type)) = some y := by
  obtain ⟨xs, n, _, _, h1, h2, h3⟩ := DataW.trod_struct ht h
  refine ⟨h1, n, fun i f hf => ?_⟩
  have hi := (Array.getElem?_eq_some_iff.1 hf).1
  exact ⟨xs[i], by rw [h3 i f hf, List.getElem?_eq_getElem]⟩
theorem fld {n : Nat} {fs : Array Field} (hf : ∀ (i : Nat) (f : Field), fs[i]? = some f → ∃ y, DataW.trod enc Try.prog w 0 spare held n f.type ((cs.drop f.offset).take (Try.prog.cellsOf f.type)) = some y) (i : Nat) {f : Field} (h : fs[i]? = some f) {t off k : Nat} (ht : f.type = t) (ho : f.offset = off) (hk : Try.prog.cellsOf t = k) :
    ∃ y, DataW.trod enc Try.prog w 0 spare held n t ((cs.drop off).take k) = some y := by
  subst ht
  subst ho
  subst hk
  exact hf i f h
set_option maxRecDepth 100000 in
theorem dfa_of_trod (h : DataW.trod enc Try.prog w 0 spare held fuel 46 cs = some x) : ∃ a b c d, cs = [a, b, c] ∧ DfaIn (Lt w) w a b c d := by
  obtain ⟨hl, n, hf⟩ := trod_field Try.underlying46 h
  rw [cD] at hl
  obtain ⟨a, b, c, rfl⟩ := len3 hl
  obtain ⟨_, h0⟩ := fld hf 0 rfl rfl rfl cI
  obtain ⟨_, h1⟩ := fld hf 1 rfl rfl rfl cII
  obtain ⟨_, h2⟩ := fld hf 2 rfl rfl rfl cBB
  obtain ⟨_, l0, e0, r0⟩ := ints_of_trod h0
  obtain ⟨_, l1, e1, r1⟩ := rows_of_trod h1
  obtain ⟨_, l2, e2, r2⟩ := bools_of_trod h2
  cases e0
  cases e1
  cases e2
  exact ⟨_, _, _, ⟨l0, l1, l2⟩, rfl, r0, r1, r2⟩
set_option maxRecDepth 100000 in
theorem sq_of_trod (h : DataW.trod enc Try.prog w 0 spare held fuel 50 cs = some x) : ∃ f a b c d q, cs = [f, a, b, c, d] ∧ SqIn (Lt w) w f a b c d q ∧ SqLens q := by
  obtain ⟨hl, n, hf⟩ := trod_field Try.underlying50 h
  rw [cQ] at hl
  obtain ⟨f, a, b, c, d, rfl⟩ := len5 hl
  obtain ⟨_, h0⟩ := fld hf 0 rfl rfl rfl cS
  obtain ⟨_, h1⟩ := fld hf 1 rfl rfl rfl cII
  obtain ⟨_, h2⟩ := fld hf 2 rfl rfl rfl cSSS
  obtain ⟨_, h3⟩ := fld hf 3 rfl rfl rfl cBB
  obtain ⟨_, h4⟩ := fld hf 4 rfl rfl rfl cSS
  obtain ⟨l0, e0, s0⟩ := str_of_trod h0
  obtain ⟨_, l1, e1, r1⟩ := rows_of_trod h1
  obtain ⟨_, l2, e2, r2, s2⟩ := texts_of_trod h2
  obtain ⟨_, l3, e3, r3⟩ := bools_of_trod h3
  obtain ⟨_, l4, e4, r4, s4⟩ := strs_of_trod h4
  cases e0
  cases e1
  cases e2
  cases e3
  cases e4
  exact ⟨_, _, _, _, _, ⟨l0, l1, l2, l3, l4⟩, rfl, ⟨rfl, r1, r2, r3, r4⟩, ⟨s0, s4, s2⟩⟩
set_option maxRecDepth 100000 in
theorem rule_of_trod (h : DataW.trod enc Try.prog w 0 spare held fuel 52 cs = some x) : ∃ r, RuleIn (Lt w) w cs r ∧ RuleLens r := by
  obtain ⟨hl, n, hf⟩ := trod_field Try.underlying52 h
  rw [cR] at hl
  obtain ⟨c0, c1, c2, c3, c4, c5, c6, c7, c8, c9, c10, c11, c12, c13, c14, c15, rfl⟩ := len16 hl
  obtain ⟨_, h0⟩ := fld hf 0 rfl rfl rfl cD
  obtain ⟨_, h1⟩ := fld hf 1 rfl rfl rfl cD
  obtain ⟨_, h2⟩ := fld hf 2 rfl rfl rfl cD
  obtain ⟨_, h3⟩ := fld hf 3 rfl rfl rfl cS
  obtain ⟨_, h4⟩ := fld hf 4 rfl rfl rfl cB
  obtain ⟨_, h5⟩ := fld hf 5 rfl rfl rfl cQ
  obtain ⟨_, _, _, d0, e0, r0⟩ := dfa_of_trod h0
  obtain ⟨_, _, _, d1, e1, r1⟩ := dfa_of_trod h1
  obtain ⟨_, _, _, d2, e2, r2⟩ := dfa_of_trod h2
  obtain ⟨o, e3, s3⟩ := str_of_trod h3
  obtain ⟨m, e4, _⟩ := DataW.trod_bool Try.underlying4 h4
  obtain ⟨_, _, _, _, _, q, e5, r5, s5⟩ := sq_of_trod h5
  cases e0
  cases e1
  cases e2
  cases e3
  cases e4
  cases e5
  exact ⟨⟨d0, d1, d2, o, m, q⟩, ⟨⟨_, _, _, _, _, _, _, _, _, _, _, _, _, _, rfl, r0, r1, r2, r5⟩⟩, ⟨s5, s3⟩⟩
set_option maxRecDepth 100000 in
theorem cls_of_trod (h : DataW.trod enc Try.prog w 0 spare held fuel 58 cs = some x) : ∃ c, ClsR (Lt w) w cs c := by
  obtain ⟨hl, n, hf⟩ := trod_field Try.underlying58 h
  rw [cC] at hl
  obtain ⟨c0, c1, c2, c3, rfl⟩ := len4 hl
  obtain ⟨_, h0⟩ := fld hf 0 rfl rfl rfl cS
  obtain ⟨_, h1⟩ := fld hf 1 rfl rfl rfl cD
  obtain ⟨o, e0, _⟩ := str_of_trod h0
  obtain ⟨_, _, _, d1, e1, r1⟩ := dfa_of_trod h1
  cases e0
  cases e1
  obtain ⟨x, p, y, q, z, s, rfl, rfl, rfl⟩ := r1.shape
  exact ⟨⟨o, d1⟩, x, p, y, q, z, s, rfl, r1⟩
set_option maxRecDepth 100000 in
theorem img_of_trod (h : DataW.trod enc Try.prog w 0 spare held fuel 25 cs = some x) : ∃ a b y, cs = [a, b] ∧ ImgIn (Lt w) w a b y ∧ ∀ r ∈ y.rules, RuleLens r := by
  obtain ⟨hl, n, hf⟩ := trod_field Try.underlying25 h
  rw [cIm] at hl
  obtain ⟨a, b, rfl⟩ := len2 hl
  obtain ⟨_, h0⟩ := fld hf 0 rfl rfl rfl cRR
  obtain ⟨_, h1⟩ := fld hf 1 rfl rfl rfl cCC
  obtain ⟨_, l0, e0, r0, _⟩ := rowk_of_trod (k := 16) (R := fun cs r => RuleIn (Lt w) w cs r ∧ RuleLens r) (by decide) Try.underlying22 cR (fun n cs x h => rule_of_trod h) h0
  obtain ⟨_, l1, e1, r1, _⟩ := rowk_of_trod (k := 4) (R := ClsR (Lt w) w) (by decide) Try.underlying23 cC (fun n cs x h => cls_of_trod h) h1
  cases e0
  cases e1
  exact ⟨_, _, ⟨l0, l1⟩, rfl, ⟨r0.frame (fun _ h => h) (fun _ _ _ => rfl) (fun _ _ _ h => h.1), r1⟩, fun r hr => (r0.mem hr).elim fun c h => h.2⟩
set_option maxRecDepth 100000 in
theorem bytes_of_trod (h : DataW.trod enc Try.prog w 0 spare held fuel 26 cs = some x) : ∃ v l, cs = [v] ∧ BytesC (Lt w) w v l := by
  obtain ⟨v, l, h1, h2, ad, cap, h3, h4, h5⟩ := row_of_trod (R := ByteR) Try.underlying26 (by kernel_rfl) (fun n cs x h => by
    obtain ⟨z, e, _, hz⟩ := DataW.trod_int Try.underlying5 h
    have hz2 : 0 ≤ z ∧ z ≤ 255 := by
      have h9 := hz
      simp [Lit.wf, IntKind.min, IntKind.max, IntKind.signed, IntKind.bits] at h9
      omega
    refine ⟨_, UInt8.ofNat z.toNat, e, ?_⟩
    show Value.int .u8 z = Value.int .u8 (((UInt8.ofNat z.toNat).toNat : Nat) : Int)
    rw [UInt8.toNat_ofNat', Nat.mod_eq_of_lt (by omega), Int.toNat_of_nonneg hz2.1]) h
  obtain ⟨_, _, e, _, h6⟩ := h2
  subst h3
  cases e
  exact ⟨_, l, h1, _, _, rfl, h4, h5, h6⟩
set_option maxRecDepth 100000 in
/-- an image that is a parameter -/
theorem open_img {b0 : Nat} {v : Value} {d : DataW H} {ps : List MemPlace} (hval : Value.okWide Try.prog w .any b0 25 v) (hd : DataW.Trod enc Try.prog w 0 spare held 25 v d ps) :
    ∃ a b y, v = .agg #[a, b] ∧ ImgIn (Lt w) w a b y ∧ ∀ r ∈ y.rules, RuleLens r := by
  unfold Value.okWide at hval
  simp only [Try.underlying25] at hval
  obtain ⟨cs, rfl, _⟩ := hval
  obtain ⟨fuel, hf⟩ := hd
  obtain ⟨a, b, y, h1, h2⟩ := img_of_trod hf
  have e : cs.toList = [a, b] := h1
  obtain rfl : cs = #[a, b] := by rw [← Array.toArray_toList (xs := cs), e]
  exact ⟨a, b, y, rfl, h2⟩
end
end Go.Proofs.Ytdokeelodcckoaa.Im
