/-
  The table of rows: what it is in memory, and the contracts of New, Put, Size, Row.
-/
import Derived.Test.YtfjomnhdmkbkiaaDoorDfL
namespace Go.Proofs.YtfjomnhdmkbkiaaDoor.Im
open Go.RowKit Go.Lib Go.Maps

def inR (x : Int) : Prop := -9223372036854775808 ≤ x ∧ x < 9223372036854775808
/-- a table of rows; Fp: the blocks that it lies in -/
structure TabIn (w : World) (base T M : Nat) (rv : Value) (rows : List (List Int)) (Fp : Nat → Prop) : Prop where
  cells : TabCells w T M rv
  own : ∃ vs, w.ownsRow base 22 1 rv vs.length vs ∧ vs.length = rows.length ∧ ∀ (i : Nat) (v : Value) (l : List Int), vs[i]? = some v → rows[i]? = some l → OwnInts w base v l ∧ ∀ g, v.ownBlock = some g → Fp g
  keys : KeysIn w M (rows.map keyRow)
  range : ∀ r ∈ rows, r.length ≤ 1000000 ∧ ∀ x ∈ r, inR x
  cnt : rows.length ≤ 4096
  fT : Fp T
  fM : Fp M
  fR : ∀ g, rv.ownBlock = some g → Fp g
  lt : ∀ g, Fp g → base ≤ g ∧ g < w.heap.size
  kind : ∀ g, Fp g → g = M ∨ ∃ cs t, w.heap[g]? = some (.cells cs t (0, 0))
theorem TabIn.keep {w w' : World} {base T M : Nat} {rv : Value} {rows : List (List Int)} {Fp : Nat → Prop} (h : TabIn w base T M rv rows Fp) (hk : ∀ g, Fp g → w'.heap[g]? = w.heap[g]?) (hs : w.heap.size ≤ w'.heap.size) : TabIn w' base T M rv rows Fp := by
  obtain ⟨vs, h1, h2, h3⟩ := h.own
  exact ⟨(hk T h.fT).trans h.cells, ⟨vs, own_blk h1 fun g hg => hk g (h.fR g hg), h2, fun i v l e1 e2 => ⟨own_blk (h3 i v l e1 e2).1 fun g hg => hk g ((h3 i v l e1 e2).2 g hg), (h3 i v l e1 e2).2⟩⟩, h.keys.block (hk M h.fM), h.range, h.cnt, h.fT, h.fM, h.fR, fun g hg => ⟨(h.lt g hg).1, Nat.lt_of_lt_of_le (h.lt g hg).2 hs⟩, fun g hg => (h.kind g hg).imp id fun ⟨cs, t, e⟩ => ⟨cs, t, (hk g hg).trans e⟩⟩
theorem TabIn.below {w w' : World} {base T M : Nat} {rv : Value} {rows : List (List Int)} {Fp : Nat → Prop} (h : TabIn w base T M rv rows Fp) (hb : Below w.heap.size w w') : TabIn w' base T M rv rows Fp :=
  h.keep (fun g hg => hb.block g (h.lt g hg).2) hb.size
theorem TabIn.turn {w w' : World} {base T M : Nat} {rv : Value} {rows : List (List Int)} {Fp S : Nat → Prop} (h : TabIn w base T M rv rows Fp) (hb : Turn S w w') (hS : ∀ g, Fp g → ¬ S g) : TabIn w' base T M rv rows Fp :=
  h.keep (fun g hg => hb.block g (h.lt g hg).2 (hS g hg)) hb.size
theorem ints_of_own {w : World} {base : Nat} {v : Value} {l : List Int} (h : OwnInts w base v l) (hm : l.length ≤ maxLen) : IntsIn (fun g => base ≤ g ∧ g < w.heap.size) w v l := by
  obtain ⟨ad, cap, rfl⟩ := own_shape h
  refine ⟨ad, cap, rfl, hm, fun hl => ?_⟩
  rcases h.2 with ⟨_, h0⟩ | ⟨g, cap', cur, e, hb, hg, _⟩
  · exact absurd (List.eq_nil_of_length_eq_zero h0) hl
  · cases e
    refine ⟨g, 0, rfl, ⟨hb, lt_of_heap hg⟩, fun i hi => ⟨iV l[i], ?_, rfl⟩⟩
    rw [Nat.zero_add, h.cellAt i (by omega), List.getElem?_map, List.getElem?_eq_getElem hi]
    rfl
theorem key_mem {rows : List (List Int)} {r : List Int} (hr : ∀ x ∈ r, inR x) (hrs : ∀ q ∈ rows, ∀ x ∈ q, inR x) : keyRow r ∈ rows.map keyRow ↔ r ∈ rows := by
  rw [List.mem_map]
  exact ⟨fun ⟨q, hq, e⟩ => keyRow_inj (hrs q hq) hr e ▸ hq, fun h => ⟨r, h, rfl⟩⟩
theorem key_idx {r : List Int} (hr : ∀ x ∈ r, inR x) : ∀ {rows : List (List Int)}, (∀ q ∈ rows, ∀ x ∈ q, inR x) → (rows.map keyRow).idxOf (keyRow r) = rows.idxOf r
  | [], _ => rfl
  | q :: rows, h => by
    rw [List.map_cons, List.idxOf_cons, List.idxOf_cons, key_idx hr fun q hq => h q (List.mem_cons_of_mem _ hq)]
    by_cases e : q = r
    · subst e; rw [beq_self_eq_true, beq_self_eq_true]
    · have e2 : keyRow q ≠ keyRow r := fun e' => e (keyRow_inj (h q (by simp)) hr e')
      rw [beq_eq_false_iff_ne.2 e, beq_eq_false_iff_ne.2 e2]
def PutPost (w : World) (base T M : Nat) (rv : Value) (Fp : Nat → Prop) (x : Except Int (Nat × List (List Int))) (e : Ending) (w' : World) : Prop :=
  match x with
  | .error er => e = .returned (.tuple #[.int .i64 0, .bool false, .int .i64 er]) ∧ Below w.heap.size w w'
  | .ok (k, rows') => ∃ b rv' Fp', e = .returned (.tuple #[.int .i64 k, .bool b, .int .i64 0]) ∧ TabIn w' base T M rv' rows' Fp' ∧ (∀ g, Fp' g → Fp g ∨ w.heap.size ≤ g) ∧ (rv'.ownBlock = rv.ownBlock ∨ ∃ g, rv'.ownBlock = some g ∧ w.heap.size ≤ g) ∧ Turn (TabS T M rv) w w'
theorem sortU_len (l : List Int) : (sortU l).length ≤ l.length := by
  have : ∀ (x : Int) (m : List Int), (insU x m).length ≤ m.length + 1 := by
    intro x m
    induction m with
    | nil => simp [insU]
    | cons y m ih => unfold insU; split <;> (try split) <;> simp <;> omega
  induction l with
  | nil => simp [sortU]
  | cons x l ih => unfold sortU; have := this x (sortU l); simp; omega
set_option maxRecDepth 100000 in
set_option maxHeartbeats 2000000 in
theorem put_any {F : Nat → Prop} {w : World} {v : Value} {l : List Int} {base T M : Nat} {rv : Value} {rows : List (List Int)} {Fp : Nat → Prop} (hl : IntsIn F w v l) (hlen : l.length ≤ 1000000) (hr : ∀ x ∈ l, inR x) (hb : base ≤ w.heap.size) (hT : TabIn w base T M rv rows Fp) :
    Calls Tryd.prog 42 #[.pointer (some ⟨T, 0, none⟩), v] w (PutPost w base T M rv Fp (putM rows l)) := by
  have h1 := isort_any hl (by omega)
  have hsl := sortU_len l
  have hsr : ∀ x ∈ sortU l, inR x := fun x hx => hr x ((mem_sortU x l).1 hx)
  have HSR := hid hsr
  have HT := hid hT
  have HP := hid (rfl : putM rows l = putM rows l)
  have hput : putM rows l = (if sortU l ∈ rows then .ok (rows.idxOf (sortU l), rows) else if 4096 ≤ rows.length then .error 2 else .ok (rows.length, rows ++ [sortU l])) := rfl
  have HPUT := hid hput
  clear hl hr hsr hT hput HP
  go_enter Tryd.func42, Tryd.ntmps42
  go_upto_region 4 with (go_at_call 75; refine h1.mono ?_; rintro e w1 ⟨v1, rfl, ho1, hb1⟩; have HO1 := hid ho1; have HB1 := hid hb1; clear ho1 hb1)
  have h2 := ikey_any (ints_of_own HO1.out (by unfold maxLen; omega)) (fun g hg => hg.2) (by omega)
  clear h1
  go_upto_region 5 with (go_at_call 76; refine h2.mono ?_; rintro e w2 ⟨rfl, hb2⟩; have HB2 := hid (HB1.out.trans (hb2.mono HB1.out.size)); have HO2 := hid (own_later HO1.out hb2); clear hb2)
  have HT2 := hid (HT.out.below HB2.out)
  have h3 := find_any HT2.out.cells HT2.out.keys (keyRow (sortU l)) (by rw [keyRow_len]; unfold maxLen; omega)
  clear h2
  go_upto_region 6 with (go_at_call 77; refine h3.mono ?_; rintro e w3 ⟨rfl, rfl⟩)
  generalize hgb : hasK (rows.map keyRow) (keyRow (sortU l)) = bb
  generalize hgi : idxK (rows.map keyRow) (keyRow (sortU l)) = ix
  have HGB := hid hgb
  have HGI := hid hgi
  have HRR := hid (fun q hq => (HT.out.range q hq).2)
  clear hgb hgi h3
  obtain ⟨vs, hov, hvl, hvr⟩ := HT2.out.own
  have c0 : w3.cell? ⟨T, 0, none⟩ = some rv := cell_blk HT2.out.cells rfl
  have hvc := HT2.out.cnt
  obtain ⟨adr, cpr, rfl⟩ := own_shape hov
  have HOV := hid hov
  have HVL := hid hvl
  have HVR := hid hvr
  clear hov hvr
  by_cases hm : sortU l ∈ rows
  · obtain rfl : bb = true := by rw [← HGB.out]; exact hasK_yes ((key_mem HSR.out HRR.out).2 hm)
    have HX := hid (show ix = rows.idxOf (sortU l) by rw [← HGI.out, idxK_yes ((key_mem HSR.out HRR.out).2 hm), idx_inst, key_idx HSR.out HRR.out])
    have HM := hid hm
    clear hm hvl
    go_wp2
    go_ret3
    rw [HPUT.out, if_pos HM.out]
    exact ⟨false, _, Fp, by rw [HX.out]; rfl, HT2.out, fun g hg => .inl hg, .inl rfl, Turn.of_below HB2.out⟩
  · obtain rfl : bb = false := by rw [← HGB.out]; exact hasK_no (fun h => hm ((key_mem HSR.out HRR.out).1 h))
    have HM := hid hm
    clear hm
    by_cases hfull : 4096 ≤ rows.length
    · have hfull' : (4096 : Int) ≤ (vs.length : Int) := by omega
      have HF := hid hfull
      clear hfull
      go_wp2
      go_ret3
      rw [HPUT.out, if_neg HM.out, if_pos HF.out]
      exact ⟨rfl, HB2.out⟩
    · have hfull' : (vs.length : Int) < 4096 := by omega
      have HF := hid hfull
      have h4 := add_any (v := v1) HT2.out.cells HOV.out HT2.out.keys (by rw [List.length_map, hvl]) (by omega) (Nat.le_trans hb HB2.out.size) (keyRow (sortU l)) (by rw [keyRow_len]; unfold maxLen; omega) (fun h => HM.out ((key_mem HSR.out HRR.out).1 h)) ⟨_, _, _, (own_shape HO2.out).choose_spec.choose_spec⟩
      clear hfull hvl
      go_wp2_with (go_at_call 78; refine h4.mono ?_; rintro e w4 ⟨rv4, rfl, k1, k2, k3, k4, k5⟩)
      go_ret3
      rw [HPUT.out, if_neg HM.out, if_neg HF.out]
      have hz2 := HB2.out.size
      have hz4 := k5.size
      have hint : ∀ (b : Nat) (v : Value) (q : List Int), OwnInts w3 b v q → OwnInts w4 b v q := fun b v q h => own_blk h fun g hg => k5.block g (own_lt h hg).2 (fun hS => by
        obtain ⟨cur, hc⟩ := own_tag h hg
        rcases hS with rfl | rfl | hS
        · rw [HT2.out.cells] at hc; cases hc
        · exact HT2.out.keys.notRow hc rfl
        · obtain ⟨cur', hc'⟩ := own_tag HOV.out hS
          rw [hc] at hc'
          cases hc')
      have hTr : (Value.slice adr vs.length cpr).ownBlock ≠ some T := fun h => by
        obtain ⟨cur, hc⟩ := own_tag HOV.out h
        rw [HT2.out.cells] at hc
        cases hc
      have hMr : (Value.slice adr vs.length cpr).ownBlock ≠ some M := fun h => by
        obtain ⟨cur, hc⟩ := own_tag HOV.out h
        exact HT2.out.keys.notRow hc rfl
      have hir : ∀ (b : Nat) (v : Value) (q : List Int), OwnInts w3 b v q → ∀ g, v.ownBlock = some g → (Value.slice adr vs.length cpr).ownBlock ≠ some g := fun b v q h => own_apart h HOV.out (by decide)
      have h5 := hint _ _ _ HO2.out
      refine ⟨true, rv4, fun g => (Fp g ∧ (Value.slice adr vs.length cpr).ownBlock ≠ some g) ∨ rv4.ownBlock = some g ∨ v1.ownBlock = some g, by rw [HVL.out]; rfl, ⟨k1, ⟨vs ++ [v1], by rw [List.length_append]; exact k2, by rw [List.length_append, List.length_append, HVL.out]; rfl, fun i v q e1 e2 => ?_⟩, by rw [List.map_append]; exact k3, ?_, by have := HF.out; simp; omega, .inl ⟨HT2.out.fT, hTr⟩, .inl ⟨HT2.out.fM, hMr⟩, fun g hg => .inr (.inl hg), ?_, ?_⟩, ?_, ?_, (Turn.of_below HB2.out).trans k5⟩
      · by_cases hi : i < vs.length
        · rw [List.getElem?_append_left hi] at e1
          rw [List.getElem?_append_left (by rw [← HVL.out]; exact hi)] at e2
          have := HVR.out i v q e1 e2
          exact ⟨hint _ _ _ this.1, fun g hg => .inl ⟨this.2 g hg, hir _ _ _ this.1 g hg⟩⟩
        · rw [List.getElem?_append_right (by omega)] at e1
          rw [List.getElem?_append_right (by rw [← HVL.out]; omega)] at e2
          obtain ⟨e1', rfl⟩ := List.getElem?_eq_some_iff.1 e1
          obtain ⟨e2', rfl⟩ := List.getElem?_eq_some_iff.1 e2
          rw [List.getElem_singleton, List.getElem_singleton]
          exact ⟨own_mono h5 hb, fun g hg => .inr (.inr hg)⟩
      · intro r hr
        rcases List.mem_append.1 hr with h | h
        · exact HT.out.range r h
        · rw [List.mem_singleton.1 h]
          exact ⟨by omega, HSR.out⟩
      · intro g hg
        rcases hg with h | h | h
        · have := HT2.out.lt g h.1
          exact ⟨this.1, by omega⟩
        · exact own_lt k2 h
        · have := own_lt h5 h
          exact ⟨by omega, this.2⟩
      · intro g hg
        rcases hg with h | h | h
        · by_cases hgM : g = M
          · exact .inl hgM
          · refine .inr ?_
            by_cases hgT : g = T
            · exact ⟨_, _, hgT ▸ k1⟩
            · rcases HT2.out.kind g h.1 with h' | ⟨cs, t, h'⟩
              · exact absurd h' hgM
              · exact ⟨cs, t, (k5.block g (HT2.out.lt g h.1).2 (fun hS => hS.elim hgT (fun hS => hS.elim hgM h.2))).trans h'⟩
        · obtain ⟨cur, hc⟩ := own_tag k2 h
          exact .inr ⟨_, _, hc⟩
        · obtain ⟨cur, hc⟩ := own_tag h5 h
          exact .inr ⟨_, _, hc⟩
      · intro g hg
        rcases hg with h | h | h
        · exact .inl h.1
        · rcases k4 with h' | ⟨g', h', h''⟩
          · rw [h'] at h
            exact .inl (HT2.out.fR g h)
          · rw [h'] at h
            cases h
            exact .inr (by omega)
        · exact .inr (own_lt HO2.out h).1
      · exact k4.imp id fun ⟨g, h1, h2⟩ => ⟨g, h1, by omega⟩
theorem newB (w : World) (a b : Obj) : ((w.alloc a).alloc b).heap[w.heap.size + 1]? = some b := by
  have := heap_alloc_new (w.alloc a) b
  rw [World.size_alloc] at this
  exact this
set_option maxRecDepth 100000 in
set_option maxHeartbeats 2000000 in
theorem new_any (w : World) :
    Calls Tryd.prog 41 #[] w fun e w' => e = .returned (.pointer (some ⟨w.heap.size + 1, 0, none⟩)) ∧ TabIn w' w.heap.size (w.heap.size + 1) w.heap.size (.slice none 0 0) [] (fun g => g = w.heap.size ∨ g = w.heap.size + 1) ∧ Below w.heap.size w w' := by
  have hmm := @run_makeMap Tryd.prog
  go_enter Tryd.func41, Tryd.ntmps41
  go_wp2
  go_ret
  refine ⟨rfl, ⟨newB _ _ _, ⟨[], World.ownsRow_nil _ _ _ _, rfl, fun i v l h => by simp at h⟩, (PlacesAt.made _ _ _ _ w).block (alloc_old (by simp)), fun r hr => by simp at hr, by simp, .inr rfl, .inl rfl, fun g hg => by simp [Value.ownBlock] at hg, fun g hg => by rw [World.size_alloc, World.size_alloc]; rcases hg with rfl | rfl <;> omega, fun g hg => hg.imp id fun h => ⟨_, _, h ▸ newB _ _ _⟩⟩, ((Below.refl _ _).alloc (Nat.le_refl _) _).alloc (by simp) _⟩
set_option maxRecDepth 100000 in
set_option maxHeartbeats 2000000 in
theorem size_any {w : World} {base T M : Nat} {rv : Value} {rows : List (List Int)} {Fp : Nat → Prop} (hT : TabIn w base T M rv rows Fp) :
    Calls Tryd.prog 43 #[.pointer (some ⟨T, 0, none⟩)] w fun e w' => e = .returned (.int .i64 rows.length) ∧ w' = w := by
  obtain ⟨vs, hov, hvl, _⟩ := hT.own
  have c0 : w.cell? ⟨T, 0, none⟩ = some rv := cell_blk hT.cells rfl
  have hc := hT.cnt
  obtain ⟨adr, cpr, rfl⟩ := own_shape hov
  have HVL := hid hvl
  have hvc : vs.length ≤ 4096 := by omega
  clear hT hov hvl
  go_enter Tryd.func43, Tryd.ntmps43
  go_wp2
  go_ret
  exact ⟨by rw [← HVL.out]; rfl, rfl⟩
def RowPost (w : World) (l : List Int) (e : Ending) (w' : World) : Prop := ∃ v', e = .returned (.tuple #[v', .int .i64 0]) ∧ OwnInts w' w.heap.size v' l ∧ Below w.heap.size w w'
set_option maxRecDepth 100000 in
set_option maxHeartbeats 2000000 in
theorem row_any {w : World} {base T M : Nat} {rv : Value} {rows : List (List Int)} {Fp : Nat → Prop} (hT : TabIn w base T M rv rows Fp) {n : Nat} (hn : n < rows.length) :
    Calls Tryd.prog 44 #[.pointer (some ⟨T, 0, none⟩), .int .i64 n] w (RowPost w rows[n]) := by
  obtain ⟨vs, hov, hvl, hvr⟩ := hT.own
  have c0 : w.cell? ⟨T, 0, none⟩ = some rv := cell_blk hT.cells rfl
  have hc := hT.cnt
  have hn' : n < vs.length := by omega
  have hx := hvr n _ _ (List.getElem?_eq_getElem hn') (List.getElem?_eq_getElem hn)
  have hlen := (hT.range _ (List.getElem_mem hn)).1
  obtain ⟨l, hl⟩ : ∃ l, l = rows[n] := ⟨_, rfl⟩
  rw [← hl] at hx hlen ⊢
  have hcl := clone_any (ints_of_own hx.1 (by unfold maxLen; omega)) (by omega)
  rcases hov.2 with ⟨_, h0⟩ | ⟨g, cap, cur, rfl, _⟩
  · omega
  have c1 : w.cell? ⟨g, n, none⟩ = some vs[n] := by rw [hov.cellAt n (by omega), List.getElem?_eq_getElem hn']
  obtain ⟨v, hv⟩ : ∃ v, v = vs[n] := ⟨_, rfl⟩
  rw [← hv] at hcl c1
  obtain ⟨adv, cpv, rfl⟩ : ∃ ad cap, v = .slice ad l.length cap := by rw [hv]; exact own_shape hx.1
  have hvc : vs.length ≤ 4096 := by omega
  clear hT hov hvl hvr hx hl hv hn hc
  go_enter Tryd.func44, Tryd.ntmps44
  go_wp2_with (go_at_call 71; refine hcl.mono ?_; rintro e w1 ⟨v1, rfl, ho1, hb1⟩)
  go_ret2
  exact ⟨v1, rfl, ho1, hb1⟩
end Go.Proofs.YtfjomnhdmkbkiaaDoor.Im
