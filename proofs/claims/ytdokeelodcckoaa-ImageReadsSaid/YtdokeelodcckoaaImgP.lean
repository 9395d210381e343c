/-
  The contract of the reader's method auto.
-/
import Derived.Test.YtdokeelodcckoaaImgO
import Derived.Deep.AppendLies
import Derived.Deep.RegionHeld3
import Derived.Test.YtdokeelodcckoaaImgU
namespace Go.Proofs.Ytdokeelodcckoaa.Im
open Go.RowKit Go.Lib

theorem infoI : (Try.prog.info? 3).map (fun i => (i.zero, i.size, i.bytes)) = some (some (.int .i64 0), 1, 8) := by kernel_rfl
theorem infoL : (Try.prog.info? 4).map (fun i => (i.zero, i.size, i.bytes)) = some (some (.bool false), 1, 1) := by kernel_rfl
theorem infoR : (Try.prog.info? 42).map (fun i => (i.zero, i.size, i.bytes)) = some (some (.slice none 0 0), 1, 24) := by kernel_rfl
abbrev iV (z : Int) : Value := .int .i64 z
abbrev lV (b : Bool) : Value := .bool b
theorem RdAt.below {F : Nat → Prop} {R b : Nat} {w w' : World} {r : Rd} (h : RdAt F R w r) (hb : Below b w w') (hR : R < b) (hF : ∀ g, F g → g < b) : RdAt F R w' r := h.frame (hb.block R hR) (fun g hg _ => hb.block g (hF g hg))
theorem Kp.below {R : Nat} {w w1 w2 : World} (h : Kp R w w1) (k : Below w.heap.size w1 w2) : Kp R w w2 :=
  ⟨k.os.trans h.os, k.tape.trans h.tape, k.output.trans h.output, Nat.le_trans h.size k.size, fun i hi hp => (k.block i hi).trans (h.block i hi hp)⟩
theorem own_kp {R : Nat} {w w1 : World} {base e size n : Nat} {v : Value} {xs : List Value} (h : w.ownsRow base e size v n xs) (k : Kp R w w1) (hR : ∀ cur, w.heap[R]? ≠ some (.cells cur e (0, 0))) : w1.ownsRow base e size v n xs :=
  ownsRow_same h fun q cur hq _ => k.block q (lt_of_heap hq) (fun e => hR cur (by rw [← e]; exact hq))
theorem own_grown {w w1 : World} {base e size n : Nat} {v : Value} {xs : List Value} {row : Option Nat} (h : w.ownsRow base e size v n xs) (k : w.grownBy w1 row) (hr : ∀ g cur, row = some g → w.heap[g]? ≠ some (.cells cur e (0, 0))) : w1.ownsRow base e size v n xs :=
  ownsRow_same h fun q cur hq _ => k.block q (lt_of_heap hq) (fun e => hr q cur e.symm hq)
theorem own_tag {w : World} {base e size n : Nat} {v : Value} {xs : List Value} (h : w.ownsRow base e size v n xs) {g : Nat} (hg : v.ownBlock = some g) : ∃ cur, w.heap[g]? = some (.cells cur e (0, 0)) := by
  rcases h.2 with ⟨rfl, _⟩ | ⟨g', cap, cur, rfl, _, hh, _⟩
  · simp [Value.ownBlock] at hg
  · simp [Value.ownBlock] at hg; subst hg; exact ⟨cur, hh⟩
theorem own_row {α : Type} {w : World} {base T : Nat} {v : Value} {l : List α} {f : α → Value} {R : Value → α → Prop} (h : w.ownsRow base T 1 v l.length (l.map f)) (hR : ∀ x ∈ l, R (f x) x) : Row (fun g => base ≤ g) w R v l := by
  rcases h.2 with ⟨hv, h0⟩ | ⟨g, cap, cur, hv, hb, hg, hn, hc, hs, ht⟩
  · have : l = [] := List.eq_nil_of_length_eq_zero h0
    subst this
    exact ⟨none, 0, hv, by simp, fun h => absurd rfl h⟩
  · refine ⟨_, _, hv, Nat.le_trans hn hc, fun _ => ⟨g, 0, rfl, hb, fun i hi => ⟨f l[i], ?_, hR _ (List.getElem_mem hi)⟩⟩⟩
    subst hv
    rw [Nat.zero_add, h.cellAt i (by omega), List.getElem?_map, List.getElem?_eq_getElem hi]
    rfl
theorem three_set0 {w : World} {P : Nat} {a b c : Value} {T : TypeId} (v : Value) (h : w.heap[P]? = some (.cells #[a, b, c] T (0, 0))) : (w.setCell ⟨P, 0, none⟩ v).heap[P]? = some (.cells #[v, b, c] T (0, 0)) := by rw [heap_setCell_same _ _ _ _ _ _ h]; rfl
theorem three_set1 {w : World} {P : Nat} {a b c : Value} {T : TypeId} (v : Value) (h : w.heap[P]? = some (.cells #[a, b, c] T (0, 0))) : (w.setCell ⟨P, 1, none⟩ v).heap[P]? = some (.cells #[a, v, c] T (0, 0)) := by rw [heap_setCell_same _ _ _ _ _ _ h]; rfl
theorem three_set2 {w : World} {P : Nat} {a b c : Value} {T : TypeId} (v : Value) (h : w.heap[P]? = some (.cells #[a, b, c] T (0, 0))) : (w.setCell ⟨P, 2, none⟩ v).heap[P]? = some (.cells #[a, b, v] T (0, 0)) := by rw [heap_setCell_same _ _ _ _ _ _ h]; rfl
theorem own_set {w : World} {base e size n P i : Nat} {v u : Value} {xs : List Value} {cs : Array Value} {T : TypeId} (h : w.ownsRow base e size v n xs) (hP : w.heap[P]? = some (.cells cs T (0, 0))) (hT : T ≠ e) : (w.setCell ⟨P, i, none⟩ u).ownsRow base e size v n xs :=
  ownsRow_same h fun q cur hq _ => heap_setCell_other _ _ _ _ (fun e => by subst e; rw [hP] at hq; cases hq; exact hT rfl)

theorem num_le {m : Int} (hm : 0 ≤ m) (r : Rd) : (num m r).1 ≤ m := by
  unfold num
  simp only
  split
  · exact hm
  · simp only; omega
/-- slices of integers, each in a row of the call's own -/
def Rws (w : World) (base : Nat) (vs : List Value) (rows : List (List Int)) : Prop :=
  vs.length = rows.length ∧ ∀ (i : Nat) (v : Value) (l : List Int), vs[i]? = some v → rows[i]? = some l → w.ownsRow base 3 1 v l.length (l.map iV)
theorem Rws.nil (w : World) (base : Nat) : Rws w base [] [] := ⟨rfl, fun i v l h => by simp at h⟩
theorem Rws.snoc {w : World} {base : Nat} {vs : List Value} {rows : List (List Int)} {v : Value} {l : List Int} (h : Rws w base vs rows) (hv : w.ownsRow base 3 1 v l.length (l.map iV)) : Rws w base (vs ++ [v]) (rows ++ [l]) := by
  refine ⟨by simp [h.1], fun i v' l' h1 h2 => ?_⟩
  by_cases hi : i < vs.length
  · rw [List.getElem?_append_left hi] at h1
    rw [List.getElem?_append_left (by have := h.1; omega)] at h2
    exact h.2 i v' l' h1 h2
  · rw [List.getElem?_append_right (by omega)] at h1
    rw [List.getElem?_append_right (by have := h.1; omega)] at h2
    obtain ⟨e1, rfl⟩ := List.getElem?_eq_some_iff.1 h1
    obtain ⟨e2, rfl⟩ := List.getElem?_eq_some_iff.1 h2
    simpa using hv
theorem Rws.same {w w' : World} {base : Nat} {vs : List Value} {rows : List (List Int)} (h : Rws w base vs rows) (hk : ∀ k cur, w.heap[k]? = some (.cells cur 3 (0, 0)) → base ≤ k → w'.heap[k]? = w.heap[k]?) : Rws w' base vs rows :=
  ⟨h.1, fun i v l h1 h2 => ownsRow_same (h.2 i v l h1 h2) hk⟩
theorem Rws.rows {w : World} {base : Nat} {v : Value} {vs : List Value} {rows : List (List Int)} (h : Rws w base vs rows) (hv : w.ownsRow base 42 1 v vs.length vs) : RowsIn (fun g => base ≤ g) w v rows := by
  have hl := h.1
  rcases hv.2 with ⟨hv', h0⟩ | ⟨g, cap, cur, hv', hb, hg, hn, hc, hs, ht⟩
  · have e : rows = [] := List.eq_nil_of_length_eq_zero (by omega)
    subst e
    exact ⟨none, 0, hv', by simp, fun h => absurd rfl h⟩
  · refine ⟨some ⟨g, 0, none⟩, cap, by rw [hv', hl], by omega, fun _ => ⟨g, 0, rfl, hb, fun i hi => ?_⟩⟩
    subst hv'
    have hi2 : i < vs.length := by omega
    refine ⟨vs[i], ?_, ?_⟩
    · rw [Nat.zero_add, hv.cellAt i (by omega), List.getElem?_eq_getElem hi2]
    · exact own_row (f := iV) (R := IntR) (h.2 i _ _ (List.getElem?_eq_getElem hi2) (List.getElem?_eq_getElem hi)) (fun _ _ => rfl)
theorem tag_ne {F : Nat → Prop} {R : Nat} {w : World} {r : Rd} (h : RdAt F R w r) {e : TypeId} (he : 68 ≠ e) : ∀ cur, w.heap[R]? ≠ some (.cells cur e (0, 0)) := by
  obtain ⟨_, _, _, h1, _⟩ := h
  intro cur hc
  rw [h1] at hc
  cases hc
  exact he rfl
theorem states_step (c n : Nat) {r : Rd} (hb : r.bad = false) : states c (n + 1) r = (((bit r).1 :: (states c n (nums 1024 c (bit r).2).2).1.1, (nums 1024 c (bit r).2).1 :: (states c n (nums 1024 c (bit r).2).2).1.2), (states c n (nums 1024 c (bit r).2).2).2) := by
  simp only [states, hb]
  simp
theorem states_bad (c n : Nat) {r : Rd} (hb : r.bad = true) : states c n r = (([], []), r) := by
  cases n with
  | zero => rfl
  | succ n => simp [states, hb]
theorem one_cell_one {v : Value} (h : v.oneCell' = true) : ∀ u ∈ [v], u.oneCell' = true := fun u hu => by rw [List.mem_singleton.1 hu]; exact h
theorem tag_rd : (68 : TypeId) ≠ 4 := by decide
theorem tag_rdi : (68 : TypeId) ≠ 3 := by decide
theorem own_mono {w : World} {base base' e size n : Nat} {v : Value} {xs : List Value} (h : w.ownsRow base e size v n xs) (hb : base' ≤ base) : w.ownsRow base' e size v n xs := by
  refine ⟨h.1, ?_⟩
  rcases h.2 with h' | ⟨g', cap', cur, h1, h2, h3⟩
  · exact .inl h'
  · exact .inr ⟨g', cap', cur, h1, Nat.le_trans hb h2, h3⟩
theorem le_alloc {w : World} {o : Obj} {b : Nat} (h : b < w.heap.size) : b + 1 ≤ (w.alloc o).heap.size := by rw [World.size_alloc]; omega
theorem far_row {w1 w2 : World} {o : Obj} {base e n q : Nat} {v : Value} {xs : List Value} (hO : w1.ownsRow base e 1 v n xs) (hg : (w1.alloc o).grownBy w2 v.ownBlock) (hq : q < w1.heap.size) (hb : q < base) : w2.heap[q]? = w1.heap[q]? :=
  (hg.block q (by rw [World.size_alloc]; omega) (fun e => by have := (hO.lt q e.symm).1; omega)).trans (alloc_old hq)
theorem nums_step (m : Int) (k : Nat) (r : Rd) : nums m (k + 1) r = ((num m r).1 :: (nums m k (num m r).2).1, (nums m k (num m r).2).2) := rfl
/-- a store into an own row -/
theorem own_store {w : World} {base e n g cap i : Nat} {xs : List Value} (u : Value) (h : w.ownsRow base e 1 (.slice (some ⟨g, 0, none⟩) n cap) n xs) : (w.setCell ⟨g, i, none⟩ u).ownsRow base e 1 (.slice (some ⟨g, 0, none⟩) n cap) n (xs.set i u) := by
  refine ⟨by simpa using h.1, ?_⟩
  rcases h.2 with ⟨h', _⟩ | ⟨g', cap', cur, h', hb, hg, hn, hc, hs, ht⟩
  · cases h'
  · cases h'
    refine .inr ⟨g, cap, cur.setIfInBounds i u, rfl, hb, heap_setCell_same _ _ _ _ _ _ hg, hn, hc, by simpa using hs, ?_⟩
    rw [Array.toList_setIfInBounds, List.take_set, ht]
theorem own_free {w : World} {base e n g cap i : Nat} {xs : List Value} (h : w.ownsRow base e 1 (.slice (some ⟨g, 0, none⟩) n cap) n xs) : w.frozen? ⟨g, i, none⟩ = false := by
  obtain ⟨cur, hc⟩ := own_tag h (g := g) rfl
  exact free_box hc
theorem own_cell {w : World} {base e n g cap i : Nat} {xs : List Value} (h : w.ownsRow base e 1 (.slice (some ⟨g, 0, none⟩) n cap) n xs) (hi : i < n) : ∃ x, w.cell? ⟨g, i, none⟩ = some x := by
  rcases h.2 with ⟨h', _⟩ | ⟨g', cap', cur, h', hb, hg, hn, hc, hs, ht⟩
  · cases h'
  · cases h'
    have hi' : i < xs.length := by have := h.1; omega
    exact ⟨xs[i], by rw [h.cellAt i (by omega), List.getElem?_eq_getElem hi']⟩
theorem take_set_snoc {xs ys : List Value} {j : Nat} {u : Value} (h : xs.take j = ys) (hj : j < xs.length) : (xs.set j u).take (j + 1) = ys ++ [u] := by
  subst h
  rw [List.take_set, List.take_succ_eq_append_getElem hj]
  rw [List.set_append_right _ _ (by simp; omega)]
  congr 1
  have : j - (List.take j xs).length = 0 := by simp; omega
  rw [this]; rfl
theorem own_row' {α : Type} {w : World} {base T n : Nat} {v : Value} {l : List α} {f : α → Value} {R : Value → α → Prop} (h : w.ownsRow base T 1 v n (l.map f)) (hR : ∀ x ∈ l, R (f x) x) : Row (fun g => base ≤ g) w R v l := by
  have e : n = l.length := by have := h.1; simp at this; omega
  subst e
  exact own_row h hR
abbrev wEnd (w : World) (D : Nat) (a b c : Value) : World := ((w.setCell ⟨D, 0, none⟩ a).setCell ⟨D, 1, none⟩ b).setCell ⟨D, 2, none⟩ c
theorem own_end {w : World} {D e n : Nat} {v a b c : Value} {xs : List Value} (h : w.ownsRow (D + 2) e 1 v n xs) : (wEnd w D a b c).ownsRow D e 1 v n xs :=
  own_mono (ownsRow_setCell_below (ownsRow_setCell_below (ownsRow_setCell_below h (by simp) _) (by simp) _) (by simp) _) (by omega)
theorem dfa_end {w : World} {D n k : Nat} {va vb vc a b c : Value} {cs : List Int} {es : List Bool} {rows : List (List Int)} {vs : List Value} (ha : w.ownsRow (D + 2) 3 1 va n (cs.map iV)) (hb : w.ownsRow (D + 2) 42 1 vb k vs) (hc : w.ownsRow (D + 2) 4 1 vc k (es.map lV)) (hr : Rws w (D + 2) vs rows) : DfaIn (fun g => D ≤ g) (wEnd w D a b c) va vb vc ⟨cs, rows, es⟩ := by
  have e : vs.length = k := by have := hb.1; omega
  subst e
  refine ⟨own_row' (own_end ha) (fun _ _ => rfl), ?_, own_row' (own_end hc) (fun _ _ => rfl)⟩
  exact Rws.rows (base := D) (vs := vs) ⟨hr.1, fun i v l h1 h2 => own_end (hr.2 i v l h1 h2)⟩ (own_end hb)
theorem below_end {D : Nat} {w : World} {a b c : Value} : Below D w (wEnd w D a b c) := (((Below.refl _ w).setCell (by simp) _).setCell (by simp) _).setCell (by simp) _
def AutoPost (F : Nat → Prop) (R : Nat) (w : World) (x : Dfa × Rd) (e : Ending) (w' : World) : Prop :=
  ∃ a b c, e = .returned (.agg #[a, b, c]) ∧ DfaIn (fun g => w.heap.size ≤ g) w' a b c x.1 ∧ RdAt F R w' x.2 ∧ Kp R w w'

set_option maxRecDepth 100000 in
set_option maxHeartbeats 2000000 in
theorem auto_any {F : Nat → Prop} {R : Nat} {w : World} {r : Rd} (h : RdAt F R w r) (hF : ∀ g, F g → g ≠ R ∧ g < w.heap.size) :
    Calls Try.prog 52 #[.pointer (some ⟨R, 0, none⟩)] w (AutoPost F R w (auto r)) := by
  have hlt := h.lt
  have HR := hid h
  have HF := hid hF
  have HFn := hid (fun g hg => (hF g hg).1)
  have HFb := hid (fun g hg => (hF g hg).2)
  clear h hF
  go_enter Try.func52, Try.ntmps52
  go_wp2_with fail
  refine (num_any (m := 1024) ((HR.out.alloc _).alloc _) HFn.out).mono ?_
  rintro e w1 ⟨rfl, hrd1, hkp1⟩
  have HRD1 := hid hrd1
  have HKP1 := hid ((((Kp.refl R w).alloc _).alloc _).trans hkp1)
  have HD2 := hid ((hkp1.block w.heap.size (by simp; omega) (by omega)).trans (heap_alloc2_old _ _ _))
  have HD3 := hid ((hkp1.block (w.heap.size + 1) (by simp) (by omega)).trans (heap_alloc2_new _ _ _))
  have hs1 := hkp1.size
  clear hrd1 hkp1
  obtain ⟨s, hs⟩ := Int.eq_ofNat_of_zero_le (num_bd 1024 r).1
  have hsle : s ≤ 1024 := by have := num_le (m := 1024) (by omega) r; omega
  have HA := hid (show auto r = (⟨ints (take 256 (num 256 (num 1024 r).2).2).1, (states (num 256 (num 1024 r).2).1.toNat s (take 256 (num 256 (num 1024 r).2).2).2).1.2, (states (num 256 (num 1024 r).2).1.toNat s (take 256 (num 256 (num 1024 r).2).2).2).1.1⟩, (states (num 256 (num 1024 r).2).1.toNat s (take 256 (num 256 (num 1024 r).2).2).2).2) by unfold auto; simp only [hs, Int.toNat_natCast])
  rw [hs]
  generalize (num 1024 r).2 = r1 at *
  clear hs
  go_wp2_with fail
  refine (num_any (m := 256) HRD1.out HFn.out).mono ?_
  rintro e w2 ⟨rfl, hrd2, hkp2⟩
  have HRD2 := hid hrd2
  have HKP2 := hid (HKP1.out.trans hkp2)
  have HD2b := hid ((hkp2.block _ (lt_of_heap HD2.out) (by omega)).trans HD2.out)
  have HD3b := hid ((hkp2.block _ (lt_of_heap HD3.out) (by omega)).trans HD3.out)
  clear hrd2 hkp2 HD2 HD3 HRD1
  obtain ⟨c, hc⟩ := Int.eq_ofNat_of_zero_le (num_bd 256 r1).1
  have hcle : c ≤ 256 := by have := num_le (m := 256) (by omega) r1; omega
  have HA2 := HA.out
  rw [hc, Int.toNat_natCast] at HA2
  have HA := hid HA2
  rw [hc]
  generalize (num 256 r1).2 = r2 at *
  clear hc HA2
  go_wp2_with fail
  refine (take_at (n := 256) rfl HRD2.out HFn.out (by omega)).mono ?_
  rintro e w3 ⟨g3, off3, cap3, rfl, hg3, hc3, hrd3, hkp3⟩
  have HRD3 := hid hrd3
  have HKP3 := hid (HKP2.out.trans hkp3)
  have HD2c := hid ((hkp3.block _ (lt_of_heap HD2b.out) (by omega)).trans HD2b.out)
  have HD3c := hid ((hkp3.block _ (lt_of_heap HD3b.out) (by omega)).trans HD3b.out)
  have HC3 := hid hc3
  have hsz2 := HKP2.out.size
  have HG3 := hid (show g3 < w.heap.size ∨ ∃ cur, w3.heap[g3]? = some (.cells cur 5 (0, 0)) from hg3.imp (HFb.out g3) (fun h => h.2))
  have hlen := take_len 256 r2
  have HLEN := hid hlen
  clear hrd3 hkp3 HD2b HD3b HRD2 hc3 hg3 hlen
  generalize (take 256 r2).2 = r3 at *
  generalize (take 256 r2).1 = bs at *
  obtain ⟨i0, hi, hz0, hz1, hz2⟩ := info_parts infoI
  have HI := hid hi
  have HZ := hid (And.intro hz0 (And.intro hz1 hz2))
  clear hi hz0 hz1 hz2
  go_wp2_with fail
  go_loopw [17] (fun v wr => ∃ (k : Nat) (a : Value), k ≤ 256 ∧ v = .int .i64 k ∧ wr.heap[w.heap.size + 1]? = some (.cells #[a, .slice none 0 0, .slice none 0 0] 46 (0, 0)) ∧ wr.ownsRow (w.heap.size + 2) 3 1 a k ((ints (bs.take k)).map iV) ∧ Hid (wr.heap[g3]? = w3.heap[g3]?) ∧ RdAt F R wr r3 ∧ Kp R w wr ∧ wr.heap[w.heap.size]? = some (.cells #[.slice none 0 0, .slice none 0 0, .slice none 0 0] 46 (0, 0))) (fun v _ => 256 - (intOf v).toNat)
  case atStart => exact ⟨0, .slice none 0 0, by omega, rfl, HD3c.out, World.ownsRow_nil _ _ _ _, hid rfl, HRD3.out, HKP3.out, HD2c.out⟩
  case round =>
    obtain ⟨k, a, hk, rfl, hd3, hown, hg, hrd, hkp, hd2⟩ := hrel
    obtain ⟨ada, cpa, rfl⟩ := own_shape hown
    obtain ⟨q0, q1, q2⟩ := dcells hd3
    have f0 := free_box (i := 0) hd3
    have hszr := hkp.size
    have HD3 := hid hd3
    have HO := hid hown
    have HRD := hid hrd
    have HKP := hid hkp
    have HD2 := hid hd2
    clear hd3 hown hrd hkp hd2
    by_cases hltk : k < 256
    · have hx : wr.cell? ⟨g3, off3 + k, none⟩ = some (.int .u8 (byteAt bs k)) := (cell_heap hg.out).trans (HC3.out k hltk)
      have hbl := byteAt_lt bs k
      have hkx : (ints (bs.take (k + 1))).map iV = (ints (bs.take k)).map iV ++ [.int .i64 (byteAt bs k)] := by
        have hkb : k < bs.length := by have := HLEN.out; omega
        rw [take_succ' _ _ hkb]
        unfold ints
        rw [List.map_append, List.map_append, List.map_singleton, List.map_singleton]
        congr 1
        have e : byteAt bs k = bs[k].toNat := by
          unfold byteAt
          rw [List.getD_eq_getElem?_getD, List.getElem?_eq_getElem hkb]; rfl
        rw [e]
      have HKX := hid hkx
      clear hkx
      go_wp2_with (at_builtin; refine wpList_append_own _ rfl _ _ 42 rfl (w.heap.size + 2) 3 i0 (.int .i64 0) 1 8 Try.underlying42 HI.out HZ.out.1 HZ.out.2.1 HZ.out.2.2 rfl (by decide) _ _ _ rfl (HO.out.alloc _) ⟨wr.heap.size, 0, none⟩ 1 1 [.int .i64 (byteAt bs k)] rfl rfl ?c1 ?c2 ?c3 ?c4 ?c5 ?_)
      case c1 => exact cell_one_new _ _ _
      case c2 => intro u hu; simp at hu; subst hu; rfl
      case c3 => unfold maxLen; omega
      case c4 => omega
      case c5 => have := lt_of_heap HD3.out; simp; omega
      intro v4 w4 hown4 hgrow4 _
      have hd3l := lt_of_heap HD3.out
      have hB4 : Below (w.heap.size + 2) wr w4 := ((Below.refl _ wr).alloc (by omega) _).grown hgrow4 (by simp; omega) (fun q hq => (HO.out.lt q hq).1)
      have hd4 := (hB4.block (w.heap.size + 1) (by omega)).trans HD3.out
      have f4 := free_box (i := 0) hd4
      obtain ⟨q4, q5, q6⟩ := dcells hd4
      obtain ⟨ad4, cp4, rfl⟩ := own_shape hown4
      have hg4 : w4.heap[g3]? = w3.heap[g3]? := by
        have hl3 : g3 < w3.heap.size := by
          rcases HG3.out with h | ⟨cur, h⟩
          · have := HKP3.out.size; omega
          · exact lt_of_heap h
        have hl4 : g3 < wr.heap.size := by
          have := hg.out
          rw [Array.getElem?_eq_getElem hl3] at this
          exact (Array.getElem?_eq_some_iff.1 this).1
        refine ((hgrow4.block g3 (by simp; omega) (fun e => ?_)).trans (alloc_old hl4)).trans hg.out
        rcases HG3.out with h | ⟨cur, h⟩
        · have := (HO.out.lt g3 e.symm).1; omega
        · obtain ⟨cur', h'⟩ := own_tag HO.out e.symm
          rw [hg.out, h] at h'
          cases h'
      have HG4 := hid hg4
      have HD4 := hid hd4
      have HO4 := hid hown4
      have HB4 := hid hB4
      clear hd4 hown4 hB4 hgrow4 hg4
      go_wp2
      go_roundw
      case rel =>
        refine ⟨k + 1, _, by omega, by go_num, three_set0 _ HD4.out, ?_, hid ((heap_setCell_other _ _ _ _ ?_).trans HG4.out), ?_, ?_, (heap_setCell_other _ _ _ _ (by simp)).trans ((HB4.out.block w.heap.size (by omega)).trans HD2.out)⟩
        · rw [HKX.out]; exact own_set HO4.out HD4.out (by decide)
        · intro e
          have e' : g3 = w.heap.size + 1 := e
          rcases HG3.out with h | ⟨cur, h⟩
          · omega
          · have := HG4.out; rw [h, e', HD4.out] at this; cases this
        · exact ((HRD.out.below HB4.out (by omega) (fun g hg => by have := HFb.out g hg; omega))).frame (heap_setCell_other _ _ _ _ (by simp; omega)) (fun g hg _ => heap_setCell_other _ _ _ _ (by have := HFb.out g hg; simp; omega))
        · exact (HKP.out.below (HB4.out.mono (by omega))).below ((Below.refl _ _).setCell (by simp) _)
      case measure => simp [intOf]; omega
    · obtain rfl : k = 256 := by omega
      have HCLS := hid (show bs.take 256 = bs by rw [← HLEN.out, List.take_length])
      have HOa := hid (show wr.ownsRow (w.heap.size + 2) 3 1 (.slice ada 256 cpa) 256 ((ints bs).map iV) by have h := HO.out; rw [HCLS.out] at h; exact h)
      obtain ⟨j0, hj, hy0, hy1, hy2⟩ := info_parts infoL
      have HJ := hid hj
      have HY := hid (And.intro hy0 (And.intro hy1 hy2))
      obtain ⟨m0, hm, hm0, hm1, hm2⟩ := info_parts infoR
      have HM := hid hm
      have HMZ := hid (And.intro hm0 (And.intro hm1 hm2))
      clear hg HO HCLS hj hy0 hy1 hy2 hm hm0 hm1 hm2 q0 q1 q2 f0 HC3 HG3 HLEN HD3c HD2c
      go_wp2_with fail
      obtain ⟨wo, rfl⟩ : ∃ wo : World, wo = wr := ⟨_, rfl⟩
      go_loopw [30] (fun v wr => ∃ (k : Nat) (es : List Bool) (rows : List (List Int)) (vs : List Value) (vb vc : Value) (rk : Rd), k ≤ s ∧ v = .int .i64 k ∧ wr.heap[w.heap.size + 1]? = some (.cells #[.slice ada 256 cpa, vb, vc] 46 (0, 0)) ∧ wr.ownsRow (w.heap.size + 2) 3 1 (.slice ada 256 cpa) 256 ((ints bs).map iV) ∧ wr.ownsRow (w.heap.size + 2) 42 1 vb k vs ∧ wr.ownsRow (w.heap.size + 2) 4 1 vc k (es.map lV) ∧ Rws wr (w.heap.size + 2) vs rows ∧ RdAt F R wr rk ∧ Kp R w wr ∧ wr.heap[w.heap.size]? = some (.cells #[.slice none 0 0, .slice none 0 0, .slice none 0 0] 46 (0, 0)) ∧ Hid (states c s r3 = ((es ++ (states c (s - k) rk).1.1, rows ++ (states c (s - k) rk).1.2), (states c (s - k) rk).2))) (fun v _ => s - (intOf v).toNat)
      case atStart => exact ⟨0, [], [], [], .slice none 0 0, .slice none 0 0, r3, Nat.zero_le _, rfl, HD3.out, HOa.out, World.ownsRow_nil _ _ _ _, World.ownsRow_nil _ _ _ _, Rws.nil _ _, HRD.out, HKP.out, HD2.out, hid (by simp)⟩
      case round =>
        obtain ⟨k, es, rows, vs, vb, vc, rk, hk, rfl, hd3, ha, hb, hc, hrws, hrd, hkp, hd2, hst⟩ := hrel
        obtain ⟨adb, cpb, rfl⟩ := own_shape hb
        obtain ⟨adc, cpc, rfl⟩ := own_shape hc
        obtain ⟨gR, oR, cR, hR1, hR2⟩ := hrd
        obtain ⟨z0, z1⟩ := twocells hR1
        have HRr := hid (show RdAt F R wr rk from ⟨gR, oR, cR, hR1, hR2⟩)
        obtain ⟨q0, q1, q2⟩ := dcells hd3
        have HD3 := hid hd3
        have HD2 := hid hd2
        have HOa := hid ha
        have HOb := hid hb
        have HOc := hid hc
        have HRWS := hid hrws
        have HKPr := hid hkp
        have hszr := hkp.size
        have hl3 := lt_of_heap hd3
        clear hd3 hd2 ha hb hc hrws hkp hR1 hR2
        by_cases hlts : k < s
        · cases hbad : rk.bad
          · have HBAD := hid hbad
            have HST : Hid (states c s r3 = ((es ++ [(bit rk).1] ++ (states c (s - (k + 1)) (nums 1024 c (bit rk).2).2).1.1, rows ++ [(nums 1024 c (bit rk).2).1] ++ (states c (s - (k + 1)) (nums 1024 c (bit rk).2).2).1.2), (states c (s - (k + 1)) (nums 1024 c (bit rk).2).2).2)) := by
              have h := hst.out
              rw [show s - k = (s - (k + 1)) + 1 by omega, states_step _ _ hbad] at h
              exact hid (by rw [h]; simp)
            rw [hbad] at z1
            clear hbad hst
            go_upto_region 11 with fail
            have Q := hid (show ∀ W : World, W.heap[w.heap.size + 1]? = wr.heap[w.heap.size + 1]? → W.cell? ⟨w.heap.size + 1, 2, none⟩ = some (.slice adc k cpc) from fun W hW => (cell_heap hW).trans q2)
            have hneR : w.heap.size + 1 ≠ R := by omega
            have hk9 : k + 1 ≤ maxLen := by unfold maxLen; omega
            have hk8 : (k + 1) * 1 ≤ 140737488355328 := by omega
            refine Till.start (S := fun W => W.cell? ⟨w.heap.size + 1, 2, none⟩ = some (.slice adc k cpc)) (n := 7) (by kernel_rfl) ?_
            refine Till.takePure (i := 0) (v := _) rfl (by kernel_rfl) (fun _ _ _ h => h) (Or.inl ⟨by rfl, fun w _ => by rfl⟩) (fun _ => q2) ?_
            try simp only [Act.put, List.setIfInBounds_toArray, List.set_cons_zero, List.set_cons_succ]
            refine Till.take (i := 1) (v := .slice adc k cpc) rfl (by kernel_rfl) (fun _ _ _ h => h) (Or.inl ⟨by rfl, fun w hS => by go_simp⟩) q2 ?_
            try simp only [Act.put, List.setIfInBounds_toArray, List.set_cons_zero, List.set_cons_succ]
            refine Till.takePure (i := 2) (v := _) rfl (by kernel_rfl) (fun _ _ _ h => h) (Or.inl ⟨by rfl, fun w _ => by rfl⟩) (fun _ => q2) ?_
            try simp only [Act.put, List.setIfInBounds_toArray, List.set_cons_zero, List.set_cons_succ]
            refine Till.all (rs := [3]) (by kernel_rfl) (by simp) (Each.cons rfl (fun K hK => ?_) Each.nil)
            go_simp
            go_at_call 69
            refine (bit_any (HRr.out.drew) HFn.out).mono ?_
            rintro e w5 ⟨rfl, hrd5, hkp5⟩
            have hd5 := hkp5.block _ hl3 hneR
            have hl5 := Nat.lt_of_lt_of_le hl3 hkp5.size
            have HO5 := hid (own_kp (own_drew HOc.out) hkp5 (tag_ne HRr.out tag_rd))
            have HD5 := hid (hd5.trans HD3.out)
            have q5 := Q.out _ hd5
            refine hK.out _ _ (fun _ => q5) ?_
            clear hK K
            try simp only [Act.put, List.setIfInBounds_toArray, List.set_cons_zero, List.set_cons_succ]
            refine Till.all (rs := [4]) (by kernel_rfl) (by simp) (Each.cons rfl (fun K hK => ?_) Each.nil)
            go_simp
            refine hK.out _ _ (fun _ => (cell_heap (alloc_old hl5)).trans q5) ?_
            clear hK K
            try simp only [Act.put, List.setIfInBounds_toArray, List.set_cons_zero, List.set_cons_succ]
            refine Till.all (rs := [5]) (by kernel_rfl) (by simp) (Each.cons rfl (fun K hK => ?_) Each.nil)
            refine step_append_lies _ (by rfl) _ _ 44 rfl (w.heap.size + 2) 4 j0 (.bool false) 1 1 Try.underlying44 HJ.out HY.out.1 HY.out.2.1 HY.out.2.2 rfl Nat.one_pos (.slice adc k cpc) k (es.map lV) rfl (HO5.out.alloc _) ⟨w5.heap.size, 0, none⟩ 1 1 [.bool (bit rk).1] rfl rfl (cell_one_new _ _ _) (one_cell_one rfl) Nat.one_pos hk9 hk8 (le_alloc hl5) _ rfl ?_
            intro g6 cap6 w6 hown6 hgrow6 hat6 hlt6
            have hd6 := (far_row HO5.out hgrow6 hl5 (Nat.lt_succ_self _)).trans hd5
            have HD6 := hid (hd6.trans HD3.out)
            have f6 := free_box (i := 2) HD6.out
            have q6 := Q.out _ hd6
            refine hK.out _ _ (fun _ => q6) ?_
            clear hK K
            try simp only [Act.put, List.setIfInBounds_toArray, List.set_cons_zero, List.set_cons_succ]
            refine Till.takePure (i := 6) (v := _) rfl (by kernel_rfl) (fun _ _ _ h => h) (Or.inl ⟨by rfl, fun w _ => by rfl⟩) (fun _ => q6) ?_
            try simp only [Act.put, List.setIfInBounds_toArray, List.set_cons_zero, List.set_cons_succ]
            refine Till.all (rs := [7]) (by kernel_rfl) (by simp) (Each.cons rfl (fun K hK => ?_) Each.nil)
            go_simp
            refine hK.out _ _ (fun h => absurd h (by decide)) ?_
            clear hK K
            try simp only [Act.put, List.setIfInBounds_toArray, List.set_cons_zero, List.set_cons_succ]
            refine Till.done (by kernel_rfl) ?_ _
            have hs5 : wr.heap.size ≤ w5.heap.size := hkp5.size
            have HOc6 := hid (own_set (i := 2) (u := .slice (some ⟨g6, 0, none⟩) (k + 1) cap6) hown6 HD6.out (by decide))
            have hb6 : Below w.heap.size w5 w6 := ((Below.refl _ w5).alloc (by omega) _).grown hgrow6 (by simp; omega) (fun q hq => by have := (HO5.out.lt q hq).1; omega)
            have hb6' := hid (hb6.setCell (p := ⟨w.heap.size + 1, 2, none⟩) (by simp) (.slice (some ⟨g6, 0, none⟩) (k + 1) cap6))
            have hno6 : ∀ {e n : Nat} {v : Value} {xs : List Value}, w5.ownsRow (w.heap.size + 2) e 1 v n xs → e ≠ 4 → e ≠ 46 → (w6.setCell ⟨w.heap.size + 1, 2, none⟩ (.slice (some ⟨g6, 0, none⟩) (k + 1) cap6)).ownsRow (w.heap.size + 2) e 1 v n xs := fun h he1 he2 =>
              own_set (own_grown (h.alloc _) hgrow6 (fun g cur hg hh => by
                obtain ⟨cur', h'⟩ := own_tag HO5.out hg
                have := (alloc_old (o := .cells #[.bool (bit rk).1] 4) (lt_of_heap h')).trans h'
                rw [hh] at this
                cases this
                exact he1 rfl)) HD6.out (fun e => he2 e.symm)
            have hOa6 := hid (hno6 (own_kp (own_drew HOa.out) hkp5 (tag_ne HRr.out (by decide))) (by decide) (by decide))
            have hOb6 := hid (hno6 (own_kp (own_drew HOb.out) hkp5 (tag_ne HRr.out (by decide))) (by decide) (by decide))
            have hRw6 := hid (show Rws (w6.setCell ⟨w.heap.size + 1, 2, none⟩ (.slice (some ⟨g6, 0, none⟩) (k + 1) cap6)) (w.heap.size + 2) vs rows from ⟨HRWS.out.1, fun i v l h1 h2 => hno6 (own_kp (own_drew (HRWS.out.2 i v l h1 h2)) hkp5 (tag_ne HRr.out (by decide))) (by decide) (by decide)⟩)
            have hRd6 := hid (hrd5.below hb6'.out (by omega) (fun g hg => HFb.out g hg))
            have hKp6 := hid ((HKPr.out.drew.trans hkp5).below hb6'.out)
            have hD6 := hid (three_set2 (.slice (some ⟨g6, 0, none⟩) (k + 1) cap6) HD6.out)
            have hD26 := hid (((heap_setCell_other w6 ⟨w.heap.size + 1, 2, none⟩ w.heap.size (.slice (some ⟨g6, 0, none⟩) (k + 1) cap6) (by simp)).trans ((hgrow6.block w.heap.size (by simp; omega) (fun e => by have := (HO5.out.lt _ e.symm).1; omega)).trans (alloc_old (by omega)))).trans ((hkp5.block w.heap.size (by show _ < wr.heap.size; omega) (by omega)).trans HD2.out))
            generalize hwm : w6.setCell ⟨w.heap.size + 1, 2, none⟩ (.slice (some ⟨g6, 0, none⟩) (k + 1) cap6) = wm at *
            clear hwm
            go_wp2_with (at_make; refine wpList_make_full _ rfl _ _ 42 rfl wm.heap.size 3 i0 (.int .i64 0) 1 Try.underlying42 HI.out HZ.out.1 HZ.out.2.1 .i64 .i64 _ _ c rfl rfl rfl rfl (by rw [HZ.out.2.2]; omega) (by unfold maxLen; omega) (Nat.le_refl _) ?_; intro w7 hown7 hgrow7; have HO7 := hid hown7; have HG7 := hid hgrow7; clear hown7 hgrow7)
            obtain ⟨gRm, oRm, cRm, hRm1, hRm2⟩ := hRd6.out
            have hszm := hKp6.out.size
            have hB7 : Below wm.heap.size wm w7 := (Below.refl _ wm).grown HG7.out (Nat.le_refl _) (fun q hq => by cases hq)
            have hRm : R < wm.heap.size := by omega
            clear hRm1 hRm2
            have hKp7 := hid ((Kp.refl R wm).below hB7)
            have hRd7 := hid (hRd6.out.below hB7 hRm (fun g hg => by have := HFb.out g hg; omega))
            clear hB7 HG7
            go_loopw [46] (fun v wr => ∃ (j : Nat) (ns : List Int) (xs : List Value) (rn : Rd), j ≤ c ∧ v = .int .i64 j ∧ wr.ownsRow wm.heap.size 3 1 (.slice (some ⟨wm.heap.size, 0, none⟩) c c) c xs ∧ xs.take j = ns.map iV ∧ RdAt F R wr rn ∧ Kp R wm wr ∧ Hid (nums 1024 c (bit rk).2 = (ns ++ (nums 1024 (c - j) rn).1, (nums 1024 (c - j) rn).2))) (fun v _ => c - (intOf v).toNat)
            case atStart => exact ⟨0, [], _, _, Nat.zero_le _, rfl, HO7.out, by simp, hRd7.out, hKp7.out, hid (by simp)⟩
            case round =>
              obtain ⟨j, ns, xs, rn, hj, rfl, hoj, htk, hrdj, hkpj, hnj⟩ := hrel
              by_cases hjc : j < c
              · have HOJ := hid hoj
                have HKJ := hid hkpj
                have HRJ := hid hrdj
                have hxl : j < xs.length := by have := hoj.1; omega
                have HTK := hid (take_set_snoc (u := iV (num 1024 rn).1) htk hxl)
                clear hoj hkpj hrdj htk
                have hjc1 : (0 : Int) ≤ (j : Int) := Int.natCast_nonneg j
                have hjc2 : (j : Int) < (c : Int) := Int.ofNat_lt.2 hjc
                go_wp2_with (go_at_call 49; refine (num_any (m := 1024) HRJ.out HFn.out).mono ?_; rintro e w8 ⟨rfl, hrd8, hkp8⟩; have HO8 := hid (own_kp HOJ.out hkp8 (tag_ne HRJ.out tag_rdi)); obtain ⟨x8, q8⟩ := own_cell HO8.out hjc; have f8 := own_free (i := j) HO8.out)
                go_roundw
                case rel =>
                  have hb8 : Below wm.heap.size w8 (w8.setCell ⟨wm.heap.size, j, none⟩ (.int .i64 (num 1024 rn).1)) := (Below.refl _ w8).setCell (by simp) _
                  refine ⟨j + 1, ns ++ [(num 1024 rn).1], xs.set j (.int .i64 (num 1024 rn).1), (num 1024 rn).2, by omega, by go_num, own_store _ HO8.out, ?_, hrd8.below hb8 hRm (fun g hg => by have := HFb.out g hg; omega), (HKJ.out.trans hkp8).below hb8, hid ?_⟩
                  · rw [HTK.out, List.map_append]; rfl
                  · rw [hnj.out, show c - j = (c - (j + 1)) + 1 by omega, nums_step]; simp
                case measure => simp [intOf]; omega
              · obtain rfl : j = c := by omega
                have HNJ := hid (show nums 1024 j (bit rk).2 = (ns, rn) by rw [hnj.out, Nat.sub_self]; simp [nums])
                have hxl := hoj.1
                have hxs : xs = ns.map iV := by rw [← htk, List.take_of_length_le (by omega)]
                subst hxs
                have hnl : ns.length = j := by simpa using hxl
                have hszj := hkpj.size
                have hlm := lt_of_heap hD6.out
                have HOn := hid (own_mono hoj (show w.heap.size + 2 ≤ wm.heap.size by omega))
                have HOa9 := hid (own_kp hOa6.out hkpj (tag_ne hRd6.out tag_rdi))
                have HOb9 := hid (own_kp hOb6.out hkpj (tag_ne hRd6.out (by decide)))
                have HOc9 := hid (own_kp HOc6.out hkpj (tag_ne hRd6.out (by decide)))
                have HRw9 := hid (show Rws wr (w.heap.size + 2) vs rows from ⟨hRw6.out.1, fun i v l h1 h2 => own_kp (hRw6.out.2 i v l h1 h2) hkpj (tag_ne hRd6.out tag_rdi)⟩)
                have HRd9 := hid hrdj
                have HKp9 := hid (hKp6.out.trans hkpj)
                have hd9 := (hkpj.block (w.heap.size + 1) (by omega) (by omega)).trans hD6.out
                have HD29 := hid ((hkpj.block w.heap.size (by omega) (by omega)).trans hD26.out)
                have HD9 := hid hd9
                have f9 := free_box (i := 1) hd9
                obtain ⟨s0, s1, s2⟩ := dcells hd9
                clear hoj htk hrdj hkpj hnj hd9
                go_wp2_with (at_builtin; refine wpList_append_own _ rfl _ _ 43 rfl (w.heap.size + 2) 42 m0 (.slice none 0 0) 1 24 Try.underlying43 HM.out HMZ.out.1 HMZ.out.2.1 HMZ.out.2.2 rfl (by decide) _ _ _ rfl (HOb9.out.alloc _) ⟨wr.heap.size, 0, none⟩ 1 1 [.slice (some ⟨wm.heap.size, 0, none⟩) j j] rfl rfl ?c1 ?c2 ?c3 ?c4 ?c5 ?_)
                case c1 => exact cell_one_new _ _ _
                case c2 => intro u hu; simp at hu; subst hu; rfl
                case c3 => unfold maxLen; omega
                case c4 => omega
                case c5 => simp; omega
                intro v10 w10 hown10 hgrow10 _
                obtain ⟨ad10, cp10, rfl⟩ := own_shape hown10
                have hd10 := (far_row HOb9.out hgrow10 (by omega) (Nat.lt_succ_self _)).trans HD9.out
                have HD10 := hid hd10
                have f10 := free_box (i := 1) hd10
                obtain ⟨y0, y1, y2⟩ := dcells hd10
                have HOW10 := hid hown10
                have HG10 := hid hgrow10
                clear hd10 hown10 hgrow10
                go_wp2
                refine And.intro ?_ ?_
                · repeat apply Exists.intro
                  refine And.intro ?_ rfl
                  have hb10 : Below w.heap.size wr (w10.setCell ⟨w.heap.size + 1, 1, none⟩ (.slice ad10 (k + 1) cp10)) := (((Below.refl _ wr).alloc (by omega) _).grown HG10.out (by simp; omega) (fun q hq => by have := (HOb9.out.lt q hq).1; omega)).setCell (by simp) _
                  have hno10 : ∀ {e n : Nat} {v : Value} {xs : List Value}, wr.ownsRow (w.heap.size + 2) e 1 v n xs → e ≠ 42 → e ≠ 46 → (w10.setCell ⟨w.heap.size + 1, 1, none⟩ (.slice ad10 (k + 1) cp10)).ownsRow (w.heap.size + 2) e 1 v n xs := fun h he1 he2 =>
                    own_set (own_grown (h.alloc _) HG10.out (fun g cur hg hh => by
                      obtain ⟨cur', h'⟩ := own_tag HOb9.out hg
                      have := (alloc_old (o := .cells #[.slice (some ⟨wm.heap.size, 0, none⟩) j j] 42) (lt_of_heap h')).trans h'
                      rw [hh] at this
                      cases this
                      exact he1 rfl)) HD10.out (fun e => he2 e.symm)
                  refine ⟨k + 1, es ++ [(bit rk).1], rows ++ [ns], vs ++ [.slice (some ⟨wm.heap.size, 0, none⟩) j j], _, _, rn, by omega, by go_num, three_set1 _ HD10.out, hno10 HOa9.out (by decide) (by decide), own_set HOW10.out HD10.out (by decide), ?_, ?_, HRd9.out.below hb10 (by omega) HFb.out, HKp9.out.below hb10, ?_, hid (by have h := HST.out; rw [HNJ.out] at h; exact h)⟩
                  · rw [List.map_append]; exact hno10 HOc9.out (by decide) (by decide)
                  · exact Rws.snoc (v := .slice (some ⟨wm.heap.size, 0, none⟩) j j) ⟨HRw9.out.1, fun i v l h1 h2 => hno10 (HRw9.out.2 i v l h1 h2) (by decide) (by decide)⟩ (by rw [hnl]; exact hno10 HOn.out (by decide) (by decide))
                  · exact (heap_setCell_other _ _ _ _ (by simp)).trans ((far_row HOb9.out HG10.out (by omega) (by omega)).trans HD29.out)
                · simp [intOf]; omega
          · have HBAD := hid hbad
            have HR9 := hid (show auto r = (⟨ints bs, rows, es⟩, rk) by rw [HA.out]; have h := hst.out; rw [states_bad _ _ hbad] at h; rw [h]; simp)
            rw [hbad] at z1
            clear hst hbad
            obtain ⟨e0, e1, e2⟩ := dcells HD2.out
            have f0 := free_box (i := 0) HD2.out
            have f1 := free_box (i := 1) HD2.out
            have f2 := free_box (i := 2) HD2.out
            go_wp2_with fail
            refine bodyPost_ret (results_cell_row (ty := 46) rfl _ _ w.heap.size 46 _ (0, 0) _ rfl (three_set2 _ (three_set1 _ (three_set0 _ HD2.out))) Try.underlying46 rfl (by kernel_rfl)) rfl ?_
            rw [HR9.out]
            exact ⟨_, _, _, rfl, dfa_end HOa.out HOb.out HOc.out HRWS.out, HRr.out.below below_end hlt HFb.out, HKPr.out.below below_end⟩
        · obtain rfl : k = s := by omega
          have HR9 := hid (show auto r = (⟨ints bs, rows, es⟩, rk) by rw [HA.out]; have h := hst.out; rw [h]; simp [states])
          clear hst
          obtain ⟨e0, e1, e2⟩ := dcells HD2.out
          have f0 := free_box (i := 0) HD2.out
          have f1 := free_box (i := 1) HD2.out
          have f2 := free_box (i := 2) HD2.out
          go_wp2_with fail
          refine bodyPost_ret (results_cell_row (ty := 46) rfl _ _ w.heap.size 46 _ (0, 0) _ rfl (three_set2 _ (three_set1 _ (three_set0 _ HD2.out))) Try.underlying46 rfl (by kernel_rfl)) rfl ?_
          rw [HR9.out]
          exact ⟨_, _, _, rfl, dfa_end HOa.out HOb.out HOc.out HRWS.out, HRr.out.below below_end hlt HFb.out, HKPr.out.below below_end⟩
end Go.Proofs.Ytdokeelodcckoaa.Im
