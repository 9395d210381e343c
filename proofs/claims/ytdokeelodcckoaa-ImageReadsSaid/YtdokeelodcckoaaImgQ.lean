/-
  The contract of the reader's method seq.
-/
import Derived.Test.YtdokeelodcckoaaImgP
import Derived.Test.YtdokeelodcckoaaImgU
import Derived.Test.YtdokeelodcckoaaImgV
import Derived.Test.YtdokeelodcckoaaImgZ
namespace Go.Proofs.Ytdokeelodcckoaa.Im
open Go.RowKit Go.Lib

theorem infoS : (Try.prog.info? 9).map (fun i => (i.zero, i.size, i.bytes)) = some (some (.string ⟨#[]⟩), 1, 16) := by kernel_rfl
theorem infoT : (Try.prog.info? 48).map (fun i => (i.zero, i.size, i.bytes)) = some (some (.slice none 0 0), 1, 24) := by kernel_rfl
abbrev sV (z : List B) : Value := .string ⟨z.toArray⟩
/-- slices of one kind, each in a row of the call's own -/
def Lst {α : Type} (T : TypeId) (f : α → Value) (w : World) (base : Nat) (vs : List Value) (rows : List (List α)) : Prop :=
  vs.length = rows.length ∧ ∀ (i : Nat) (v : Value) (l : List α), vs[i]? = some v → rows[i]? = some l → w.ownsRow base T 1 v l.length (l.map f)
section
variable {α : Type} {T : TypeId} {f : α → Value}
theorem Lst.nil (w : World) (base : Nat) : Lst T f w base [] [] := ⟨rfl, fun i v l h => by simp at h⟩
theorem Lst.snoc {w : World} {base : Nat} {vs : List Value} {rows : List (List α)} {v : Value} {l : List α} (h : Lst T f w base vs rows) (hv : w.ownsRow base T 1 v l.length (l.map f)) : Lst T f w base (vs ++ [v]) (rows ++ [l]) := by
  refine ⟨by simp [h.1], fun i v' l' h1 h2 => ?_⟩
  by_cases hi : i < vs.length
  · rw [List.getElem?_append_left hi] at h1
    rw [List.getElem?_append_left (by have := h.1; omega)] at h2
    exact h.2 i v' l' h1 h2
  · rw [List.getElem?_append_right (by omega)] at h1
    rw [List.getElem?_append_right (by have := h.1; omega)] at h2
    obtain ⟨e1, rfl⟩ := List.getElem?_eq_some_iff.1 h1
    obtain ⟨e2, rfl⟩ := List.getElem?_eq_some_iff.1 h2
    simpa using hv
theorem Lst.map {w w' : World} {base base' : Nat} {vs : List Value} {rows : List (List α)} (h : Lst T f w base vs rows) (hk : ∀ (v : Value) (l : List α), w.ownsRow base T 1 v l.length (l.map f) → w'.ownsRow base' T 1 v l.length (l.map f)) : Lst T f w' base' vs rows :=
  ⟨h.1, fun i v l h1 h2 => hk v l (h.2 i v l h1 h2)⟩
theorem Lst.rows {w : World} {base E : Nat} {v : Value} {vs : List Value} {rows : List (List α)} {R : Value → α → Prop} (h : Lst T f w base vs rows) (hv : w.ownsRow base E 1 v vs.length vs) (hR : ∀ x, R (f x) x) : Row (fun g => base ≤ g) w (Row (fun g => base ≤ g) w R) v rows := by
  have hl := h.1
  rcases hv.2 with ⟨hv', h0⟩ | ⟨g, cap, cur, hv', hb, hg, hn, hc, hs, ht⟩
  · have e : rows = [] := List.eq_nil_of_length_eq_zero (by omega)
    subst e
    exact ⟨none, 0, hv', by simp, fun h => absurd rfl h⟩
  · refine ⟨some ⟨g, 0, none⟩, cap, by rw [hv', hl], by omega, fun _ => ⟨g, 0, rfl, hb, fun i hi => ?_⟩⟩
    subst hv'
    have hi2 : i < vs.length := by omega
    refine ⟨vs[i], ?_, ?_⟩
    · rw [Nat.zero_add, hv.cellAt i (by omega), List.getElem?_eq_getElem hi2]
    · exact own_row (f := f) (R := R) (h.2 i _ _ (List.getElem?_eq_getElem hi2) (List.getElem?_eq_getElem hi)) (fun x _ => hR x)
end
theorem made_rep (v : Value) (n : Nat) (h : v.cells = #[v] := by rfl) : (madeCells v.cells (n * 1)).toList = List.replicate n v := by
  rw [h, Nat.mul_one, toList_madeCells_one]
theorem own_below {w w' : World} {b base e size n : Nat} {v : Value} {xs : List Value} (h : w.ownsRow base e size v n xs) (k : Below b w w') (hb : w.heap.size ≤ b) : w'.ownsRow base e size v n xs :=
  ownsRow_same h fun q cur hq _ => k.block q (Nat.lt_of_lt_of_le (lt_of_heap hq) hb)
theorem rep_set {α : Type} (x y : α) (j m : Nat) (hj : j < m) : (List.replicate j x ++ List.replicate (m - j) y).set j x = List.replicate (j + 1) x ++ List.replicate (m - (j + 1)) y := by
  rw [List.set_append_right _ _ (by simp), List.length_replicate, Nat.sub_self, show m - j = (m - (j + 1)) + 1 by omega, List.replicate_succ, List.set_cons_zero, List.replicate_succ', List.append_assoc]
  rfl
theorem own_other {w : World} {base base' e e' g n n' cap i : Nat} {v u : Value} {xs ys : List Value} (h : w.ownsRow base e 1 v n xs) (hg : w.ownsRow base' e' 1 (.slice (some ⟨g, 0, none⟩) n' cap) n' ys) (he : e' ≠ e) : (w.setCell ⟨g, i, none⟩ u).ownsRow base e 1 v n xs := by
  obtain ⟨cur, hc⟩ := own_tag hg (g := g) rfl
  exact own_set h hc he
theorem own_ge {w : World} {base e n g cap : Nat} {xs : List Value} (h : w.ownsRow base e 1 (.slice (some ⟨g, 0, none⟩) n cap) n xs) : base ≤ g := (h.lt g rfl).1
theorem tag_rds : (68 : TypeId) ≠ 9 := by decide
def SqPost (F : Nat → Prop) (R : Nat) (w : World) (x : Sq × Rd) (e : Ending) (w' : World) : Prop :=
  ∃ f a b c d, e = .returned (.agg #[f, a, b, c, d]) ∧ SqIn (fun g => w.heap.size ≤ g) w' f a b c d x.1 ∧ RdAt F R w' x.2 ∧ Kp R w w'
abbrev sEnd (w : World) (D : Nat) (f a b c d : Value) : World := ((((w.setCell ⟨D, 0, none⟩ f).setCell ⟨D, 1, none⟩ a).setCell ⟨D, 2, none⟩ b).setCell ⟨D, 3, none⟩ c).setCell ⟨D, 4, none⟩ d
theorem own_sEnd {w : World} {D base e n : Nat} {v f a b c d : Value} {xs : List Value} (h : w.ownsRow base e 1 v n xs) (hD : D < base) : (sEnd w D f a b c d).ownsRow D e 1 v n xs :=
  own_mono (ownsRow_setCell_below (ownsRow_setCell_below (ownsRow_setCell_below (ownsRow_setCell_below (ownsRow_setCell_below h hD _) hD _) hD _) hD _) hD _) (by omega)
theorem below_sEnd {D : Nat} {w : World} {f a b c d : Value} : Below D w (sEnd w D f a b c d) := (((((Below.refl _ w).setCell (by simp) _).setCell (by simp) _).setCell (by simp) _).setCell (by simp) _).setCell (by simp) _

theorem five_end {w : World} {D : Nat} {f a b c d f0 a0 b0 c0 d0 : Value} {T : TypeId} (h : w.heap[D]? = some (.cells #[f0, a0, b0, c0, d0] T (0, 0))) : (sEnd w D f a b c d).heap[D]? = some (.cells #[f, a, b, c, d] T (0, 0)) := by
  rw [heap_setCell_same _ _ _ _ _ _ (heap_setCell_same _ _ _ _ _ _ (heap_setCell_same _ _ _ _ _ _ (heap_setCell_same _ _ _ _ _ _ (heap_setCell_same _ _ _ _ _ _ h))))]
  rfl
theorem sq_end {w : World} {Z D k : Nat} {fr : List B} {f a b c d va vb vc vd : Value} {rows : List SRow} {nv ov : List Value} (hZ : Z < D + 1) (ha : w.ownsRow (D + 1) 42 1 va k nv) (hb : w.ownsRow (D + 1) 48 1 vb k ov) (hc : w.ownsRow (D + 1) 4 1 vc k ((rows.map (·.fin)).map lV)) (hd : w.ownsRow (D + 1) 9 1 vd k ((rows.map (·.tail)).map sV)) (hn : Lst 3 iV w (D + 1) nv (rows.map (·.next))) (ho : Lst 9 sV w (D + 1) ov (rows.map (·.outs))) :
    SqIn (fun g => Z ≤ g) (sEnd w Z f a b c d) (sV fr) va vb vc vd ⟨fr, rows.map (·.next), rows.map (·.outs), rows.map (·.fin), rows.map (·.tail)⟩ := by
  have e1 : nv.length = k := by have := ha.1; omega
  have e2 : ov.length = k := by have := hb.1; omega
  refine ⟨rfl, ?_, ?_, own_row' (own_sEnd hc hZ) (fun _ _ => rfl), own_row' (own_sEnd hd hZ) (fun _ _ => rfl)⟩
  · exact Lst.rows (hn.map fun v l h => own_sEnd h hZ) (by rw [e1]; exact own_sEnd ha hZ) (fun _ => rfl)
  · exact Lst.rows (ho.map fun v l h => own_sEnd h hZ) (by rw [e2]; exact own_sEnd hb hZ) (fun _ => rfl)
theorem sstates_step (n : Nat) {r : Rd} (hb : r.bad = false) : sstates (n + 1) r = ((sstate r).1 :: (sstates n (sstate r).2).1, (sstates n (sstate r).2).2) := by
  simp only [sstates, hb]
  simp
theorem sstates_bad (n : Nat) {r : Rd} (hb : r.bad = true) : sstates n r = ([], r) := by
  cases n with
  | zero => rfl
  | succ n => simp [sstates, hb]

theorem Lst.mapm {α : Type} {T : TypeId} {f : α → Value} {w w' : World} {base base' : Nat} {vs : List Value} {rows : List (List α)} (h : Lst T f w base vs rows) (hk : ∀ (v : Value) (l : List α), v ∈ vs → w.ownsRow base T 1 v l.length (l.map f) → w'.ownsRow base' T 1 v l.length (l.map f)) : Lst T f w' base' vs rows :=
  ⟨h.1, fun i v l h1 h2 => hk v l (List.mem_of_getElem? h1) (h.2 i v l h1 h2)⟩
theorem Lst.own_of_mem {α : Type} {T : TypeId} {f : α → Value} {w : World} {base : Nat} {vs : List Value} {rows : List (List α)} (h : Lst T f w base vs rows) {v : Value} (hv : v ∈ vs) : ∃ l : List α, w.ownsRow base T 1 v l.length (l.map f) := by
  obtain ⟨i, hi, rfl⟩ := List.getElem_of_mem hv
  have hi' : i < rows.length := by have := h.1; omega
  exact ⟨rows[i], h.2 i _ _ (List.getElem?_eq_getElem hi) (List.getElem?_eq_getElem hi')⟩
abbrev w34 (W : World) (D : Nat) (a b : Value) : World := (W.setCell ⟨D, 3, none⟩ a).setCell ⟨D, 4, none⟩ b
/-- the facts at the end of a round of the reader's method seq -/
theorem seq_fin {F : Nat → Prop} {R D k g4 g5 cpc cpe cp1 cp2 cp3 cp4 : Nat} {w W5 W6 : World} {rn : Rd} {fr : List B} {rows : List SRow} {ns : List Int} {os : List (List B)} {en : Bool} {tl : List B} {nv ov : List Value} {ad1 ad2 ad3 ad4 adc ade : Option Addr} {x : SRow} (er : x = ⟨ns, os, en, tl⟩)
    (GB : Gr (Value.slice adc k cpc).ownBlock (Value.slice ade k cpe).ownBlock W5 W6)
    (hD : W5.heap[D]? = some (.cells #[sV fr, .slice ad1 (k + 1) cp1, .slice ad2 (k + 1) cp2, .slice adc k cpc, .slice ade k cpe] 50 (0, 0)))
    (H1 : W5.ownsRow (D + 1) 42 1 (.slice ad1 (k + 1) cp1) (k + 1) (nv ++ [.slice (some ⟨g4, 0, none⟩) 256 256]))
    (H2 : W5.ownsRow (D + 1) 48 1 (.slice ad2 (k + 1) cp2) (k + 1) (ov ++ [.slice (some ⟨g5, 0, none⟩) 256 256]))
    (Hc : W5.ownsRow (D + 1) 4 1 (.slice adc k cpc) k ((rows.map (·.fin)).map lV))
    (He : W5.ownsRow (D + 1) 9 1 (.slice ade k cpe) k ((rows.map (·.tail)).map sV))
    (Hn : W5.ownsRow (D + 1) 3 1 (.slice (some ⟨g4, 0, none⟩) 256 256) 256 (ns.map iV))
    (Ho : W5.ownsRow (D + 1) 9 1 (.slice (some ⟨g5, 0, none⟩) 256 256) 256 (os.map sV))
    (HLN : Lst 3 iV W5 (D + 1) nv (rows.map (·.next))) (HLO : Lst 9 sV W5 (D + 1) ov (rows.map (·.outs)))
    (HR : RdAt F R W5 rn) (HK : Kp R w W5) (hR : R < D) (hF : ∀ g, F g → g < D) (hw : w.heap.size < D)
    (HZ : W5.heap[w.heap.size]? = some (.cells #[.string ⟨#[]⟩, .slice none 0 0, .slice none 0 0, .slice none 0 0, .slice none 0 0] 50 (0, 0)))
    (hap : ∀ x ∈ ov, ∀ g, x.ownBlock = some g → (Value.slice ade k cpe).ownBlock ≠ some g) (hg5 : (Value.slice ade k cpe).ownBlock ≠ some g5)
    (N3 : W6.ownsRow (D + 1) 4 1 (.slice ad3 (k + 1) cp3) (k + 1) ((rows.map (·.fin)).map lV ++ [.bool en]))
    (N4 : W6.ownsRow (D + 1) 9 1 (.slice ad4 (k + 1) cp4) (k + 1) ((rows.map (·.tail)).map sV ++ [sV tl]))
    (hnew : ∀ g, (Value.slice ad4 (k + 1) cp4).ownBlock = some g → (Value.slice ade k cpe).ownBlock = some g ∨ W5.heap.size ≤ g) :
    ((w34 W6 D (.slice ad3 (k + 1) cp3) (.slice ad4 (k + 1) cp4)).heap[D]? = some (.cells #[sV fr, .slice ad1 (k + 1) cp1, .slice ad2 (k + 1) cp2, .slice ad3 (k + 1) cp3, .slice ad4 (k + 1) cp4] 50 (0, 0)) ∧
     (w34 W6 D (.slice ad3 (k + 1) cp3) (.slice ad4 (k + 1) cp4)).ownsRow (D + 1) 42 1 (.slice ad1 (k + 1) cp1) (k + 1) (nv ++ [.slice (some ⟨g4, 0, none⟩) 256 256]) ∧
     (w34 W6 D (.slice ad3 (k + 1) cp3) (.slice ad4 (k + 1) cp4)).ownsRow (D + 1) 48 1 (.slice ad2 (k + 1) cp2) (k + 1) (ov ++ [.slice (some ⟨g5, 0, none⟩) 256 256]) ∧
     (w34 W6 D (.slice ad3 (k + 1) cp3) (.slice ad4 (k + 1) cp4)).ownsRow (D + 1) 4 1 (.slice ad3 (k + 1) cp3) (k + 1) (((rows ++ [x]).map (·.fin)).map lV) ∧
     (w34 W6 D (.slice ad3 (k + 1) cp3) (.slice ad4 (k + 1) cp4)).ownsRow (D + 1) 9 1 (.slice ad4 (k + 1) cp4) (k + 1) (((rows ++ [x]).map (·.tail)).map sV) ∧
     Lst 3 iV (w34 W6 D (.slice ad3 (k + 1) cp3) (.slice ad4 (k + 1) cp4)) (D + 1) (nv ++ [.slice (some ⟨g4, 0, none⟩) 256 256]) ((rows ++ [x]).map (·.next)) ∧
     Lst 9 sV (w34 W6 D (.slice ad3 (k + 1) cp3) (.slice ad4 (k + 1) cp4)) (D + 1) (ov ++ [.slice (some ⟨g5, 0, none⟩) 256 256]) ((rows ++ [x]).map (·.outs)) ∧
     RdAt F R (w34 W6 D (.slice ad3 (k + 1) cp3) (.slice ad4 (k + 1) cp4)) rn ∧ Kp R w (w34 W6 D (.slice ad3 (k + 1) cp3) (.slice ad4 (k + 1) cp4)) ∧
     (w34 W6 D (.slice ad3 (k + 1) cp3) (.slice ad4 (k + 1) cp4)).heap[w.heap.size]? = some (.cells #[.string ⟨#[]⟩, .slice none 0 0, .slice none 0 0, .slice none 0 0, .slice none 0 0] 50 (0, 0)) ∧
     (∀ x ∈ ov ++ [.slice (some ⟨g5, 0, none⟩) 256 256], ∀ g, x.ownBlock = some g → (Value.slice ad4 (k + 1) cp4).ownBlock ≠ some g)) := by
  subst er
  have hDl := lt_of_heap hD
  have hc1 := fun g hg => (own_lt Hc (g := g) hg).1
  have he1 := fun g hg => (own_lt He (g := g) hg).1
  have hB : Below D W5 (w34 W6 D (.slice ad3 (k + 1) cp3) (.slice ad4 (k + 1) cp4)) :=
    ((GB.below (D := D) (by omega) (fun g hg => by have := hc1 g hg; omega) (fun g hg => by have := he1 g hg; omega)).setCell (by simp) _).setCell (by simp) _
  have hD6 := (GB.block D hDl (fun e => by have := hc1 D e; omega) (fun e => by have := he1 D e; omega)).trans hD
  have st : ∀ {e n : Nat} {v : Value} {xs : List Value}, W6.ownsRow (D + 1) e 1 v n xs → (w34 W6 D (.slice ad3 (k + 1) cp3) (.slice ad4 (k + 1) cp4)).ownsRow (D + 1) e 1 v n xs := fun h => own_blk_set (own_blk_set h (Nat.lt_succ_self D)) (Nat.lt_succ_self D)
  have keep : ∀ {e n : Nat} {v : Value} {xs : List Value}, W5.ownsRow (D + 1) e 1 v n xs → e ≠ 4 → (∀ g, v.ownBlock = some g → (Value.slice ade k cpe).ownBlock ≠ some g) → (w34 W6 D (.slice ad3 (k + 1) cp3) (.slice ad4 (k + 1) cp4)).ownsRow (D + 1) e 1 v n xs :=
    fun h hb ha => st (GB.own h (fun g hg hg' => own_apart h Hc hb g hg hg') (fun g hg => ha g hg))
  have keep2 : ∀ {e n : Nat} {v : Value} {xs : List Value}, W5.ownsRow (D + 1) e 1 v n xs → e ≠ 4 → e ≠ 9 → (w34 W6 D (.slice ad3 (k + 1) cp3) (.slice ad4 (k + 1) cp4)).ownsRow (D + 1) e 1 v n xs :=
    fun h hb hs => keep h hb (own_apart h He hs)
  have ln : ns.length = 256 := by have := Hn.1; simpa using this
  have lo : os.length = 256 := by have := Ho.1; simpa using this
  have hap' : ∀ x ∈ ov ++ [.slice (some ⟨g5, 0, none⟩) 256 256], ∀ g, x.ownBlock = some g → (Value.slice ade k cpe).ownBlock ≠ some g := by
    intro x hx g hg
    rcases List.mem_append.1 hx with h | h
    · exact hap x h g hg
    · rw [List.mem_singleton.1 h] at hg
      cases hg
      exact hg5
  refine ⟨?_, keep2 H1 (by decide) (by decide), keep2 H2 (by decide) (by decide), ?_, ?_, ?_, ?_, ?_, ?_, ?_, ?_⟩
  · rw [heap_setCell_same _ _ _ _ _ _ (heap_setCell_same _ _ _ _ _ _ hD6)]
    rfl
  · have := st N3
    simpa [List.map_append] using this
  · have := st N4
    simpa [List.map_append] using this
  · rw [List.map_append]
    refine Lst.snoc (HLN.map fun v l h => keep2 h (by decide) (by decide)) ?_
    have := keep2 Hn (by decide) (by decide)
    simpa [ln] using this
  · rw [List.map_append]
    refine Lst.snoc (HLO.mapm fun v l hm h => keep h (by decide) (hap v hm)) ?_
    have := keep Ho (by decide) (fun g hg => by cases hg; exact hg5)
    simpa [lo] using this
  · exact HR.below hB hR hF
  · exact HK.below (hB.mono (by omega))
  · exact (hB.block w.heap.size hw).trans HZ
  · intro x hx g hg hg'
    rcases hnew g hg' with h | h
    · exact hap' x hx g hg h
    · have : g < W5.heap.size := by
        rcases List.mem_append.1 hx with h' | h'
        · obtain ⟨l, hl⟩ := HLO.own_of_mem h'
          exact (own_lt hl hg).2
        · rw [List.mem_singleton.1 h'] at hg
          exact (own_lt Ho hg).2
      omega

set_option maxRecDepth 100000 in
set_option maxHeartbeats 2000000 in
theorem seq_any {F : Nat → Prop} {R : Nat} {w : World} {r : Rd} (h : RdAt F R w r) (hF : ∀ g, F g → g ≠ R ∧ g < w.heap.size) :
    Calls Try.prog 70 #[.pointer (some ⟨R, 0, none⟩)] w (SqPost F R w (sq r)) := by
  have hlt := h.lt
  have HR := hid h
  have HF := hid hF
  have HFn := hid (fun g hg => (hF g hg).1)
  have HFb := hid (fun g hg => (hF g hg).2)
  clear h hF
  go_enter Try.func70, Try.ntmps70
  go_wp2_with fail
  refine (txt_any (m := 4096) (HR.out.alloc _) HFn.out).mono ?_
  rintro e w1 ⟨rfl, hrd1, hkp1⟩
  have HRD1 := hid hrd1
  have HKP1 := hid (((Kp.refl R w).alloc _).trans hkp1)
  have HZ1 := hid ((hkp1.block w.heap.size (by simp) (by omega)).trans (heap_alloc_new _ _))
  have hs1 := hkp1.size
  clear hrd1 hkp1
  have HA := hid (show sq r = (⟨(txt 4096 r).1, (sstates (num 1024 (txt 4096 r).2).1.toNat (num 1024 (txt 4096 r).2).2).1.map (·.next), (sstates (num 1024 (txt 4096 r).2).1.toNat (num 1024 (txt 4096 r).2).2).1.map (·.outs), (sstates (num 1024 (txt 4096 r).2).1.toNat (num 1024 (txt 4096 r).2).2).1.map (·.fin), (sstates (num 1024 (txt 4096 r).2).1.toNat (num 1024 (txt 4096 r).2).2).1.map (·.tail)⟩, (sstates (num 1024 (txt 4096 r).2).1.toNat (num 1024 (txt 4096 r).2).2).2) from rfl)
  generalize (txt 4096 r).1 = fr at *
  generalize (txt 4096 r).2 = r1 at *
  go_wp2_with fail
  refine (num_any (m := 1024) (HRD1.out.alloc _) HFn.out).mono ?_
  rintro e w2 ⟨rfl, hrd2, hkp2⟩
  have HRD2 := hid hrd2
  have HKP2 := hid ((HKP1.out.alloc _).trans hkp2)
  have HZ2 := hid ((hkp2.block w.heap.size (by have := lt_of_heap HZ1.out; simp; omega) (by omega)).trans ((alloc_old (lt_of_heap HZ1.out)).trans HZ1.out))
  have HD2 := hid ((hkp2.block w1.heap.size (by simp) (by have := lt_of_heap HZ1.out; omega)).trans (heap_alloc_new _ _))
  have hs2 := hkp2.size
  have hsz1 := lt_of_heap HZ1.out
  clear hrd2 hkp2
  obtain ⟨s, hs⟩ := Int.eq_ofNat_of_zero_le (num_bd 1024 r1).1
  have hsle : s ≤ 1024 := by have := num_le (m := 1024) (by omega) r1; omega
  have HA2 := HA.out
  rw [hs, Int.toNat_natCast] at HA2
  have HA := hid HA2
  rw [hs]
  generalize (num 1024 r1).2 = r2 at *
  generalize hD : w1.heap.size = D at *
  clear hs HA2 HZ1 HRD1 HKP1 hs1
  obtain ⟨i0, hi, hz0, hz1, hz2⟩ := info_parts infoI
  have HI := hid hi
  have HZI := hid (And.intro hz0 (And.intro hz1 hz2))
  clear hi hz0 hz1 hz2
  obtain ⟨j0, hi, hz0, hz1, hz2⟩ := info_parts infoL
  have HJ := hid hi
  have HZJ := hid (And.intro hz0 (And.intro hz1 hz2))
  clear hi hz0 hz1 hz2
  obtain ⟨m0, hi, hz0, hz1, hz2⟩ := info_parts infoR
  have HM := hid hi
  have HZM := hid (And.intro hz0 (And.intro hz1 hz2))
  clear hi hz0 hz1 hz2
  obtain ⟨p0, hi, hz0, hz1, hz2⟩ := info_parts infoS
  have HP := hid hi
  have HZP := hid (And.intro hz0 (And.intro hz1 hz2))
  clear hi hz0 hz1 hz2
  obtain ⟨t0, hi, hz0, hz1, hz2⟩ := info_parts infoT
  have HT := hid hi
  have HZT := hid (And.intro hz0 (And.intro hz1 hz2))
  clear hi hz0 hz1 hz2
  go_wp2_with fail
  go_loopw [15] (fun v wr => ∃ (k : Nat) (rows : List SRow) (nv ov : List Value) (va vb vc vd : Value) (rk : Rd), k ≤ s ∧ v = .int .i64 k ∧ wr.heap[D]? = some (.cells #[sV fr, va, vb, vc, vd] 50 (0, 0)) ∧ wr.ownsRow (D + 1) 42 1 va k nv ∧ wr.ownsRow (D + 1) 48 1 vb k ov ∧ wr.ownsRow (D + 1) 4 1 vc k ((rows.map (·.fin)).map lV) ∧ wr.ownsRow (D + 1) 9 1 vd k ((rows.map (·.tail)).map sV) ∧ Lst 3 iV wr (D + 1) nv (rows.map (·.next)) ∧ Lst 9 sV wr (D + 1) ov (rows.map (·.outs)) ∧ RdAt F R wr rk ∧ Kp R w wr ∧ wr.heap[w.heap.size]? = some (.cells #[.string ⟨#[]⟩, .slice none 0 0, .slice none 0 0, .slice none 0 0, .slice none 0 0] 50 (0, 0)) ∧ Hid (∀ x ∈ ov, ∀ g, x.ownBlock = some g → vd.ownBlock ≠ some g) ∧ Hid (sstates s r2 = (rows ++ (sstates (s - k) rk).1, (sstates (s - k) rk).2))) (fun v _ => s - (intOf v).toNat)
  case atStart => exact ⟨0, [], [], [], .slice none 0 0, .slice none 0 0, .slice none 0 0, .slice none 0 0, r2, Nat.zero_le _, rfl, HD2.out, World.ownsRow_nil _ _ _ _, World.ownsRow_nil _ _ _ _, World.ownsRow_nil _ _ _ _, World.ownsRow_nil _ _ _ _, Lst.nil _ _, Lst.nil _ _, HRD2.out, HKP2.out, HZ2.out, hid (fun x hx => by cases hx), hid (by simp)⟩
  case round =>
    obtain ⟨k, rows, nv, ov, va, vb, vc, vd, rk, hk, rfl, hd, ha, hb, hc, he, hln, hlo, hrd, hkp, hz, hap, hst⟩ := hrel
    obtain ⟨ada, cpa, rfl⟩ := own_shape ha
    obtain ⟨adb, cpb, rfl⟩ := own_shape hb
    obtain ⟨adc, cpc, rfl⟩ := own_shape hc
    obtain ⟨ade, cpe, rfl⟩ := own_shape he
    obtain ⟨gR, oR, cR, hR1, hR2⟩ := hrd
    obtain ⟨z0, z1⟩ := twocells hR1
    have HRr := hid (show RdAt F R wr rk from ⟨gR, oR, cR, hR1, hR2⟩)
    obtain ⟨q0, q1, q2, q3, q4⟩ := scells hd
    have HD := hid hd
    have HZ := hid hz
    have HOa := hid ha
    have HOb := hid hb
    have HOc := hid hc
    have HOe := hid he
    have HLN := hid hln
    have HLO := hid hlo
    have HKP := hid hkp
    have hszr := hkp.size
    have hlD := lt_of_heap hd
    clear hd hz ha hb hc he hln hlo hkp hR1 hR2
    by_cases hlts : k < s
    · cases hbad : rk.bad
      · have HBAD := hid hbad
        have HST : Hid (sstates s r2 = (rows ++ [(sstate rk).1] ++ (sstates (s - (k + 1)) (sstate rk).2).1, (sstates (s - (k + 1)) (sstate rk).2).2)) := by
          have h := hst.out
          rw [show s - k = (s - (k + 1)) + 1 by omega, sstates_step _ hbad] at h
          exact hid (by rw [h]; simp)
        rw [hbad] at z1
        clear hbad hst
        go_upto_region 5 with fail
        go_cut [4, 5, 6] (fun v4 v5 v6 wx => ∃ g4 g5, v4 = .slice (some ⟨g4, 0, none⟩) 256 256 ∧ v5 = .slice (some ⟨g5, 0, none⟩) 256 256 ∧ v6 = .string ⟨#[]⟩ ∧ wx.ownsRow wr.heap.size 3 1 (.slice (some ⟨g4, 0, none⟩) 256 256) 256 (List.replicate 256 (iV 0)) ∧ wx.ownsRow wr.heap.size 9 1 (.slice (some ⟨g5, 0, none⟩) 256 256) 256 ((List.replicate 256 []).map sV) ∧ Below wr.heap.size wr wx)
        case first =>
          refine Till.start (S := fun _ => True) (n := 4) (by kernel_rfl) ?_
          refine Till.all (rs := [0, 1]) (by kernel_rfl) (by simp) (Each.cons rfl (fun K hK => ?_) (Each.cons rfl (fun K hK => ?_) Each.nil))
          · refine step_make rfl _ _ 42 rfl 3 i0 (.int .i64 0) 1 Try.underlying42 HI.out HZI.out.1 HZI.out.2.1 256 rfl rfl (by rw [HZI.out.2.2]; decide) (by unfold maxLen; omega) ?_
            intro w4 hown4 hgrow4
            refine hK.out _ _ (fun _ => True.intro) ?_
            clear hK K
            try simp only [Act.put, List.setIfInBounds_toArray]
            refine Till.take (i := 2) (v := _) rfl (by kernel_rfl) (fun _ _ _ h => h) (Or.inl ⟨by rfl, fun w _ => by rfl⟩) True.intro ?_
            try simp only [Act.put]
            refine Till.all (rs := [1]) (by kernel_rfl) (by simp) (Each.cons rfl (fun K hK => ?_) Each.nil)
            refine step_make rfl _ _ 48 rfl 9 p0 (.string ⟨#[]⟩) 1 Try.underlying48 HP.out HZP.out.1 HZP.out.2.1 256 rfl rfl (by rw [HZP.out.2.2]; decide) (by unfold maxLen; omega) ?_
            intro w5 hown5 hgrow5
            refine hK.out _ _ (fun _ => True.intro) ?_
            clear hK K
            try simp only [Act.put]
            refine Till.all (rs := [3]) (by kernel_rfl) (by simp) (Each.cons rfl (fun K hK => ?_) Each.nil)
            go_simp
            refine hK.out _ _ (fun _ => True.intro) ?_
            clear hK K
            try simp only [Act.put, List.setIfInBounds_toArray, List.set_cons_zero, List.set_cons_succ]
            refine Till.all (rs := [4]) (by kernel_rfl) (by simp) (Each.cons rfl (fun K hK => ?_) Each.nil)
            go_simp
            refine hK.out _ _ (fun _ => True.intro) ?_
            clear hK K
            try simp only [Act.put, List.setIfInBounds_toArray, List.set_cons_zero, List.set_cons_succ]
            refine Till.done (by kernel_rfl) ?_ _
            go_wp2_with fail
            go_meet
            case rel =>
              have hb4 : Below wr.heap.size wr w4 := ((Below.refl wr.heap.size wr).drew).grown hgrow4 (Nat.le_refl _) (fun q hq => by cases hq)
              refine ⟨wr.heap.size, w4.heap.size, rfl, rfl, rfl, ?_, ?_, hb4.grown hgrow5 hb4.size (fun q hq => by cases hq)⟩
              · have h := own_grown hown4 hgrow5 (fun g cur h => by cases h)
                rw [made_rep (.int .i64 0) 256 rfl] at h
                exact h
              · have h := own_mono hown5 hb4.size
                rw [made_rep (.string ⟨#[]⟩) 256 rfl] at h
                rw [List.map_replicate]
                exact h
          · refine step_make rfl _ _ 48 rfl 9 p0 (.string ⟨#[]⟩) 1 Try.underlying48 HP.out HZP.out.1 HZP.out.2.1 256 rfl rfl (by rw [HZP.out.2.2]; decide) (by unfold maxLen; omega) ?_
            intro w5 hown5 hgrow5
            refine hK.out _ _ (fun _ => True.intro) ?_
            clear hK K
            try simp only [Act.put, List.setIfInBounds_toArray]
            refine Till.all (rs := [0]) (by kernel_rfl) (by simp) (Each.cons rfl (fun K hK => ?_) Each.nil)
            refine step_make rfl _ _ 42 rfl 3 i0 (.int .i64 0) 1 Try.underlying42 HI.out HZI.out.1 HZI.out.2.1 256 rfl rfl (by rw [HZI.out.2.2]; decide) (by unfold maxLen; omega) ?_
            intro w4 hown4 hgrow4
            refine hK.out _ _ (fun _ => True.intro) ?_
            clear hK K
            try simp only [Act.put]
            refine Till.all (rs := [2]) (by kernel_rfl) (by simp) (Each.cons rfl (fun K hK => ?_) Each.nil)
            go_simp
            refine hK.out _ _ (fun _ => True.intro) ?_
            clear hK K
            try simp only [Act.put, List.setIfInBounds_toArray, List.set_cons_zero, List.set_cons_succ]
            refine Till.all (rs := [3]) (by kernel_rfl) (by simp) (Each.cons rfl (fun K hK => ?_) Each.nil)
            go_simp
            refine hK.out _ _ (fun _ => True.intro) ?_
            clear hK K
            try simp only [Act.put, List.setIfInBounds_toArray, List.set_cons_zero, List.set_cons_succ]
            refine Till.all (rs := [4]) (by kernel_rfl) (by simp) (Each.cons rfl (fun K hK => ?_) Each.nil)
            go_simp
            refine hK.out _ _ (fun _ => True.intro) ?_
            clear hK K
            try simp only [Act.put, List.setIfInBounds_toArray, List.set_cons_zero, List.set_cons_succ]
            refine Till.done (by kernel_rfl) ?_ _
            go_wp2_with fail
            go_meet
            case rel =>
              have hb5 : Below wr.heap.size wr w5 := ((Below.refl wr.heap.size wr).drew).grown hgrow5 (Nat.le_refl _) (fun q hq => by cases hq)
              refine ⟨w5.heap.size, wr.heap.size, rfl, rfl, rfl, ?_, ?_, hb5.grown hgrow4 hb5.size (fun q hq => by cases hq)⟩
              · have h := own_mono hown4 hb5.size
                rw [made_rep (.int .i64 0) 256 rfl] at h
                exact h
              · have h := own_grown hown5 hgrow4 (fun g cur h => by cases h)
                rw [made_rep (.string ⟨#[]⟩) 256 rfl] at h
                rw [List.map_replicate]
                exact h
        case rest =>
          obtain ⟨g4, g5, rfl, rfl, rfl, hon, hoo, hbw⟩ := hcut
          obtain ⟨wo, rfl⟩ : ∃ wo : World, wo = wr := ⟨_, rfl⟩
          have HON := hid hon
          have HOO := hid hoo
          have HBW := hid hbw
          clear hon hoo hbw
          go_wp2_with fail
          go_loopw [25] (fun v wx => ∃ (j : Nat), j ≤ 256 ∧ v = .int .i64 j ∧ wx.ownsRow wo.heap.size 3 1 (.slice (some ⟨g4, 0, none⟩) 256 256) 256 (List.replicate j (iV (-1)) ++ List.replicate (256 - j) (iV 0)) ∧ wx.ownsRow wo.heap.size 9 1 (.slice (some ⟨g5, 0, none⟩) 256 256) 256 ((List.replicate 256 []).map sV) ∧ Below wo.heap.size wo wx) (fun v _ => 256 - (intOf v).toNat)
          case atStart => exact ⟨0, Nat.zero_le _, rfl, HON.out, HOO.out, HBW.out⟩
          case round =>
            obtain ⟨j, hj, rfl, hon, hoo, hbw⟩ := hrel
            have HOX := hid hon
            have HOY := hid hoo
            have HBX := hid hbw
            clear hon hoo hbw
            by_cases hj2 : j < 256
            · obtain ⟨x8, q8⟩ := own_cell HOX.out hj2
              have f8 := own_free (i := j) HOX.out
              go_wp2_with fail
              go_roundw
              case rel =>
                refine ⟨j + 1, by omega, by go_num, ?_, own_other HOY.out HOX.out (by decide), HBX.out.setCell (own_ge HOX.out) _⟩
                rw [← rep_set _ _ _ _ hj2]
                exact own_store _ HOX.out
              case measure => simp [intOf]; omega
            · obtain rfl : j = 256 := by omega
              have HR5 := hid (HRr.out.below HBX.out (by omega) (fun g hg => by have := HFb.out g hg; omega))
              have HO4 := hid (show wr.ownsRow wo.heap.size 3 1 (.slice (some ⟨g4, 0, none⟩) 256 256) 256 (List.replicate 256 (iV (-1))) by have h := HOX.out; rwa [Nat.sub_self, List.replicate_zero, List.append_nil] at h)
              have hszx := HBX.out.size
              clear HOX
              go_upto_if 34 with (go_at_call 69; refine (bit_any HR5.out HFn.out).mono ?_; rintro e w6 ⟨rfl, hrd6, hkp6⟩; have HR6 := hid hrd6; have HK6 := hid hkp6; clear hrd6 hkp6)
              go_cut [6, 8] (fun v6 v8 wx => v6 = sV (tailOf (bit rk).1 (bit rk).2).1 ∧ v8 = .bool (bit rk).1 ∧ RdAt F R wx (tailOf (bit rk).1 (bit rk).2).2 ∧ Kp R wr wx)
              case first =>
                go_wp2_with (go_at_call 51; refine (txt_any (m := 4096) HR6.out HFn.out).mono ?_; rintro e w7 ⟨rfl, hrd7, hkp7⟩)
                · go_meet
                  have hb : (bit rk).1 = true := by assumption
                  exact ⟨by rw [hb]; rfl, by rw [hb], by rw [hb]; exact hrd7, HK6.out.trans hkp7⟩
                · go_meet
                  have hb : (bit rk).1 = false := by assumption
                  exact ⟨by rw [hb]; rfl, by rw [hb], by rw [hb]; exact HR6.out, HK6.out⟩
              case rest =>
                obtain ⟨rfl, rfl, hrd7, hkp7⟩ := hcut
                have HR7 := hid hrd7
                have HK7 := hid hkp7
                clear hrd7 hkp7 HR6 HK6
                have HO4c := hid (own_kp HO4.out HK7.out (tag_ne HR5.out tag_rdi))
                have HO5c := hid (own_kp HOY.out HK7.out (tag_ne HR5.out tag_rds))
                have HKc := hid (((Kp.refl R wo).below HBX.out).trans HK7.out)
                have HSS := hid (show sstate rk = (⟨(arcs (num 256 (tailOf (bit rk).1 (bit rk).2).2).1.toNat blank (num 256 (tailOf (bit rk).1 (bit rk).2).2).2).1.1, (arcs (num 256 (tailOf (bit rk).1 (bit rk).2).2).1.toNat blank (num 256 (tailOf (bit rk).1 (bit rk).2).2).2).1.2, (bit rk).1, (tailOf (bit rk).1 (bit rk).2).1⟩, (arcs (num 256 (tailOf (bit rk).1 (bit rk).2).2).1.toNat blank (num 256 (tailOf (bit rk).1 (bit rk).2).2).2).2) from rfl)
                clear HO4 HOY HR5 HK7 HBX
                generalize (tailOf (bit rk).1 (bit rk).2).2 = rt at *
                generalize (tailOf (bit rk).1 (bit rk).2).1 = tl at *
                generalize (bit rk).1 = en at *
                go_wp2_with fail
                refine (num_any (m := 256) HR7.out HFn.out).mono ?_
                rintro e w8 ⟨rfl, hrd8, hkp8⟩
                have HR8 := hid hrd8
                have HO48 := hid (own_kp HO4c.out hkp8 (tag_ne HR7.out tag_rdi))
                have HO58 := hid (own_kp HO5c.out hkp8 (tag_ne HR7.out tag_rds))
                have HK8 := hid (HKc.out.trans hkp8)
                clear hrd8 hkp8 HR7 HO4c HO5c HKc
                obtain ⟨m, hm⟩ := Int.eq_ofNat_of_zero_le (num_bd 256 rt).1
                have hmle : m ≤ 256 := by have := num_le (m := 256) (by omega) rt; omega
                have HSS2 := HSS.out
                rw [hm, Int.toNat_natCast] at HSS2
                have HSS := hid HSS2
                rw [hm]
                generalize (num 256 rt).2 = r8 at *
                clear hm HSS2
                go_wp2_with fail
                go_loopw [39] (fun v wx => ∃ (j : Nat) (ns : List Int) (os : List (List B)) (rn : Rd), j ≤ m ∧ v = .int .i64 j ∧ wx.ownsRow wo.heap.size 3 1 (.slice (some ⟨g4, 0, none⟩) 256 256) 256 (ns.map iV) ∧ wx.ownsRow wo.heap.size 9 1 (.slice (some ⟨g5, 0, none⟩) 256 256) 256 (os.map sV) ∧ RdAt F R wx rn ∧ Kp R wo wx ∧ Hid (arcs m blank r8 = arcs (m - j) (ns, os) rn)) (fun v _ => m - (intOf v).toNat)
                case atStart => exact ⟨0, blank.1, blank.2, r8, Nat.zero_le _, rfl, by unfold blank; rw [List.map_replicate]; exact HO48.out, HO58.out, HR8.out, HK8.out, hid rfl⟩
                case round =>
                  obtain ⟨j, ns, os, rn, hj, rfl, hox, hoy, hrx, hkx, har⟩ := hrel
                  have HOX := hid hox
                  have HOY := hid hoy
                  have HRX := hid hrx
                  have HKX := hid hkx
                  have hge4 := own_ge hox
                  have hge5 := own_ge hoy
                  clear hox hoy hrx hkx
                  by_cases hjm : j < m
                  · go_wp2_with fail
                    refine (take_at (n := 1) rfl HRX.out HFn.out (by omega)).mono ?_
                    rintro e wa ⟨gt, ot, ct, rfl, hgt, hct, hrda, hkpa⟩
                    have hx0 : wa.cell? ⟨gt, ot, none⟩ = some (.int .u8 (byteAt (take 1 rn).1 0)) := hct 0 (by omega)
                    have hbt := byteAt_lt (take 1 rn).1 0
                    have HRA := hid hrda
                    have HOA := hid (own_kp HOX.out hkpa (tag_ne HRX.out tag_rdi))
                    have HOB := hid (own_kp HOY.out hkpa (tag_ne HRX.out tag_rds))
                    have HKA := hid (HKX.out.trans hkpa)
                    have HAR := hid (show arcs m blank r8 = arcs (m - (j + 1)) (ns.set (byteAt (take 1 rn).1 0) (num 1024 (take 1 rn).2).1, os.set (byteAt (take 1 rn).1 0) (txt 4096 (num 1024 (take 1 rn).2).2).1) (txt 4096 (num 1024 (take 1 rn).2).2).2 by
                      rw [har.out, show m - j = (m - (j + 1)) + 1 by omega]; rfl)
                    clear hrda hkpa hct hgt har HOX HOY HRX HKX
                    generalize byteAt (take 1 rn).1 0 = bt at *
                    generalize (take 1 rn).2 = ra at *
                    have hb1 : (0 : Int) ≤ (bt : Int) := Int.natCast_nonneg bt
                    have hb2 : (bt : Int) < 256 := by omega
                    go_wp2_with fail
                    refine (num_any (m := 1024) HRA.out HFn.out).mono ?_
                    rintro e wb ⟨rfl, hrdb, hkpb⟩
                    have HRB := hid hrdb
                    have HOA2 := hid (own_kp HOA.out hkpb (tag_ne HRA.out tag_rdi))
                    have HOB2 := hid (own_kp HOB.out hkpb (tag_ne HRA.out tag_rds))
                    have HKB := hid (HKA.out.trans hkpb)
                    obtain ⟨x8, q8⟩ := own_cell HOA2.out hbt
                    have f8 := own_free (i := bt) HOA2.out
                    clear hrdb hkpb HOA HOB HKA HRA
                    go_wp2_with fail
                    have hbc : Below wo.heap.size wb (wb.setCell ⟨g4, bt, none⟩ (.int .i64 (num 1024 ra).1)) := (Below.refl _ wb).setCell hge4 _
                    have HRC := hid (HRB.out.below hbc (by omega) (fun g hg => by have := HFb.out g hg; omega))
                    have HOA3 := hid (own_store (i := bt) (.int .i64 (num 1024 ra).1) HOA2.out)
                    have HOB3 := hid (own_other (i := bt) (u := .int .i64 (num 1024 ra).1) HOB2.out HOA2.out (by decide))
                    have HKC := hid (HKB.out.below hbc)
                    clear hbc HRB HOA2 HOB2 HKB q8 f8
                    generalize wb.setCell ⟨g4, bt, none⟩ (.int .i64 (num 1024 ra).1) = wd at *
                    refine (txt_any (m := 4096) HRC.out HFn.out).mono ?_
                    rintro e we ⟨rfl, hrde, hkpe⟩
                    have HRE := hid hrde
                    have HOA4 := hid (own_kp HOA3.out hkpe (tag_ne HRC.out tag_rdi))
                    have HOB4 := hid (own_kp HOB3.out hkpe (tag_ne HRC.out tag_rds))
                    have HKE := hid (HKC.out.trans hkpe)
                    obtain ⟨x9, q9⟩ := own_cell HOB4.out hbt
                    have f9 := own_free (i := bt) HOB4.out
                    clear hrde hkpe HOA3 HOB3 HKC HRC
                    go_wp2_with fail
                    refine And.intro ?_ ?_
                    · have hbe : Below wo.heap.size we (we.setCell ⟨g5, bt, none⟩ (.string ⟨(txt 4096 (num 1024 ra).2).1.toArray⟩)) := (Below.refl _ we).setCell hge5 _
                      refine ⟨j + 1, _, _, _, by omega, by go_num, ?_, ?_, HRE.out.below hbe (by omega) (fun g hg => by have := HFb.out g hg; omega), HKE.out.below hbe, HAR⟩
                      · rw [List.map_set]; exact own_other HOA4.out HOB4.out (by decide)
                      · rw [List.map_set]; exact own_store _ HOB4.out
                    · simp [intOf]; omega
                  · obtain rfl : j = m := by omega
                    have HAJ := hid (show sstate rk = (⟨ns, os, en, tl⟩, rn) by rw [HSS.out, har.out, Nat.sub_self]; rfl)
                    clear har HSS
                    go_upto_region 20 with fail
                    have HD1 := hid ((HKX.out.block D hlD (by omega)).trans HD.out)
                    have HOa1 := hid (own_kp HOa.out HKX.out (tag_ne HRr.out (by decide)))
                    have HOb1 := hid (own_kp HOb.out HKX.out (tag_ne HRr.out (by decide)))
                    have hszw := HKX.out.size
                    have hlDr : D < wr.heap.size := lt_of_heap HD1.out
                    obtain ⟨y0, y1, y2, y3, y4⟩ := scells HD1.out
                    have hk9 : k + 1 ≤ maxLen := by unfold maxLen; omega
                    have hk8 : (k + 1) * 24 ≤ 140737488355328 := by omega
                    have hapt := own_apart HOa1.out HOb1.out (by decide)
                    have hAD : (Value.slice ada k cpa).ownBlock ≠ some D := fun e => by have := (own_lt HOa1.out e).1; omega
                    have hBD : (Value.slice adb k cpb).ownBlock ≠ some D := fun e => by have := (own_lt HOb1.out e).1; omega
                    go_cut [] (fun wx => ∃ ad1 cp1 ad2 cp2 W4, wx = (W4.setCell ⟨D, 1, none⟩ (.slice ad1 (k + 1) cp1)).setCell ⟨D, 2, none⟩ (.slice ad2 (k + 1) cp2) ∧ Gr (Value.slice ada k cpa).ownBlock (Value.slice adb k cpb).ownBlock wr W4 ∧ W4.ownsRow (D + 1) 42 1 (.slice ad1 (k + 1) cp1) (k + 1) (nv ++ [.slice (some ⟨g4, 0, none⟩) 256 256]) ∧ W4.ownsRow (D + 1) 48 1 (.slice ad2 (k + 1) cp2) (k + 1) (ov ++ [.slice (some ⟨g5, 0, none⟩) 256 256]))
                    case first =>
                      refine Till.start (S := fun W => W.cell? ⟨D, 1, none⟩ = some (.slice ada k cpa) ∧ W.cell? ⟨D, 2, none⟩ = some (.slice adb k cpb)) (n := 11) (by kernel_rfl) ?_
                      refine Till.takePure (i := 0) (v := _) rfl (by kernel_rfl) (fun _ _ _ h => h) (Or.inl ⟨by rfl, fun w _ => by rfl⟩) (fun _ => ⟨y1, y2⟩) ?_
                      try simp only [Act.put, List.setIfInBounds_toArray]
                      refine Till.take (i := 1) (v := .slice ada k cpa) rfl (by kernel_rfl) (fun _ _ _ h => h) (Or.inl ⟨by rfl, fun w hS => by obtain ⟨hS1, hS2⟩ := hS; go_simp⟩) ⟨y1, y2⟩ ?_
                      try simp only [Act.put]
                      refine Till.takePure (i := 2) (v := _) rfl (by kernel_rfl) (fun _ _ _ h => h) (Or.inl ⟨by rfl, fun w _ => by rfl⟩) (fun _ => ⟨y1, y2⟩) ?_
                      try simp only [Act.put]
                      refine Till.takePure (i := 5) (v := _) rfl (by kernel_rfl) (fun _ _ _ h => h) (Or.inl ⟨by rfl, fun w _ => by rfl⟩) (fun _ => ⟨y1, y2⟩) ?_
                      try simp only [Act.put]
                      refine Till.take (i := 6) (v := .slice adb k cpb) rfl (by kernel_rfl) (fun _ _ _ h => h) (Or.inl ⟨by rfl, fun w hS => by obtain ⟨hS1, hS2⟩ := hS; go_simp⟩) ⟨y1, y2⟩ ?_
                      try simp only [Act.put]
                      refine Till.takePure (i := 7) (v := _) rfl (by kernel_rfl) (fun _ _ _ h => h) (Or.inl ⟨by rfl, fun w _ => by rfl⟩) (fun _ => ⟨y1, y2⟩) ?_
                      try simp only [Act.put]
                      refine Till.all (rs := [3, 8]) (by kernel_rfl) (by simp) (Each.cons rfl (fun K hK => ?_) (Each.cons rfl (fun K hK => ?_) Each.nil))
                      · go_simp
                        have G1 : Gr none none wr ((wr.alloc (.cells #[.slice (some ⟨g4, 0, none⟩) 256 256] 42)).drew) := ((Gr.refl _ _ wr).alloc _).drew
                        have h1 : ((wr.alloc (.cells #[.slice (some ⟨g4, 0, none⟩) 256 256] 42)).drew).heap[wr.heap.size]? = some (.cells #[.slice (some ⟨g4, 0, none⟩) 256 256] 42 (0, 0)) := heap_alloc_new _ _
                        refine hK.out _ _ (fun _ => ⟨(cell_heap (G1.block D hlDr (by simp) (by simp))).trans y1, (cell_heap (G1.block D hlDr (by simp) (by simp))).trans y2⟩) ?_
                        clear hK K
                        try simp only [Act.put, List.setIfInBounds_toArray, List.set_cons_zero, List.set_cons_succ]
                        generalize ((wr.alloc (.cells #[.slice (some ⟨g4, 0, none⟩) 256 256] 42)).drew) = W1 at *
                        refine Till.all (rs := [4, 8]) (by kernel_rfl) (by simp) (Each.cons rfl (fun K hK => ?_) (Each.cons rfl (fun K hK => ?_) Each.nil))
                        · refine step_append_lies _ (by rfl) _ _ 43 rfl (D + 1) 42 m0 (.slice none 0 0) 1 24 Try.underlying43 HM.out HZM.out.1 HZM.out.2.1 HZM.out.2.2 rfl Nat.one_pos (.slice ada k cpa) k nv rfl (G1.own0 HOa1.out) ⟨wr.heap.size, 0, none⟩ 1 1 [.slice (some ⟨g4, 0, none⟩) 256 256] rfl rfl (one_at h1) (one_cell_one rfl) Nat.one_pos hk9 hk8 (Nat.le_trans hlDr G1.size) _ rfl ?_
                          intro g6 cap6 w6 hown6 hgrow6 hat6 hlt6
                          have G6 : Gr (Value.slice ada k cpa).ownBlock none wr w6 := (Gr.all G1).grown hgrow6 (fun g _ e => .inl e)
                          refine hK.out _ _ (fun _ => ⟨(cell_heap (G6.block D hlDr hAD (by simp))).trans y1, (cell_heap (G6.block D hlDr hAD (by simp))).trans y2⟩) ?_
                          clear hK K
                          try simp only [Act.put, List.setIfInBounds_toArray]
                          refine Till.takePure (i := 10) (v := _) rfl (by kernel_rfl) (fun _ _ _ h => h) (Or.inl ⟨by rfl, fun w _ => by rfl⟩) (fun _ => ⟨(cell_heap (G6.block D hlDr hAD (by simp))).trans y1, (cell_heap (G6.block D hlDr hAD (by simp))).trans y2⟩) ?_
                          try simp only [Act.put]
                          refine Till.all (rs := [8]) (by kernel_rfl) (by simp) (Each.cons rfl (fun K hK => ?_) Each.nil)
                          go_simp
                          have G7 := G6.alloc (.cells #[.slice (some ⟨g5, 0, none⟩) 256 256] 48)
                          have h7 : (w6.alloc (.cells #[.slice (some ⟨g5, 0, none⟩) 256 256] 48)).heap[w6.heap.size]? = some (.cells #[.slice (some ⟨g5, 0, none⟩) 256 256] 48 (0, 0)) := heap_alloc_new _ _
                          have hown6y := hown6.alloc (.cells #[.slice (some ⟨g5, 0, none⟩) 256 256] 48)
                          refine hK.out _ _ (fun _ => ⟨(cell_heap (G7.block D hlDr hAD (by simp))).trans y1, (cell_heap (G7.block D hlDr hAD (by simp))).trans y2⟩) ?_
                          clear hK K
                          try simp only [Act.put, List.setIfInBounds_toArray, List.set_cons_zero, List.set_cons_succ]
                          refine Till.all (rs := [9]) (by kernel_rfl) (by simp) (Each.cons rfl (fun K hK => ?_) Each.nil)
                          refine step_append_lies _ (by rfl) _ _ 47 rfl (D + 1) 48 t0 (.slice none 0 0) 1 24 Try.underlying47 HT.out HZT.out.1 HZT.out.2.1 HZT.out.2.2 rfl Nat.one_pos (.slice adb k cpb) k ov rfl ((G7.own HOb1.out (fun g hg h => hapt g h hg) (fun _ _ => by simp))) ⟨w6.heap.size, 0, none⟩ 1 1 [.slice (some ⟨g5, 0, none⟩) 256 256] rfl rfl (one_at h7) (one_cell_one rfl) Nat.one_pos hk9 hk8 (Nat.le_trans hlDr G7.size) _ rfl ?_
                          intro g7 cap7 w7 hown7 hgrow7 hat7 hlt7
                          have GB : Gr (Value.slice ada k cpa).ownBlock (Value.slice adb k cpb).ownBlock wr w7 := (Gr.wide G7).grown hgrow7 (fun g _ e => .inr e)
                          have hD7 := (GB.block D hlDr hAD hBD).trans HD1.out
                          obtain ⟨x0, x1, x2, x3, x4⟩ := scells hD7
                          have f1 := free_box (i := 1) hD7
                          have f2 := free_box (i := 2) hD7
                          refine hK.out _ _ (fun _ => ⟨(cell_heap (GB.block D hlDr hAD hBD)).trans y1, (cell_heap (GB.block D hlDr hAD hBD)).trans y2⟩) ?_
                          clear hK K
                          try simp only [Act.put, List.setIfInBounds_toArray]
                          refine Till.all (rs := [11]) (by kernel_rfl) (by simp) (Each.cons rfl (fun K hK => ?_) Each.nil)
                          go_simp
                          refine hK.out _ _ (fun h => absurd h (by decide)) ?_
                          clear hK K
                          try simp only [Act.put, List.setIfInBounds_toArray, List.set_cons_zero, List.set_cons_succ]
                          refine Till.takePure (i := 12) (v := _) rfl (by kernel_rfl) (fun _ _ _ h => h) (Or.inl ⟨by rfl, fun w _ => by rfl⟩) (fun hL => absurd hL (by decide)) ?_
                          try simp only [Act.put, List.setIfInBounds_toArray]
                          refine Till.all (rs := [13]) (by kernel_rfl) (by simp) (Each.cons rfl (fun K hK => ?_) Each.nil)
                          go_simp
                          refine hK.out _ _ (fun h => absurd h (by decide)) ?_
                          clear hK K
                          try simp only [Act.put, List.setIfInBounds_toArray, List.set_cons_zero, List.set_cons_succ]
                          refine Till.done (by kernel_rfl) ?_ _
                          go_wp2_with fail
                          go_meet
                          exact ⟨_, _, _, _, w7, rfl, GB, own_second (wr := wr) hgrow7 hown6y hat6 G1.size hapt (fun g hg => (own_lt HOb1.out hg).2), hown7⟩
                        · go_simp
                          have G2 := G1.alloc (.cells #[.slice (some ⟨g5, 0, none⟩) 256 256] 48)
                          have h2 : (W1.alloc (.cells #[.slice (some ⟨g5, 0, none⟩) 256 256] 48)).heap[W1.heap.size]? = some (.cells #[.slice (some ⟨g5, 0, none⟩) 256 256] 48 (0, 0)) := heap_alloc_new _ _
                          have h1' : (W1.alloc (.cells #[.slice (some ⟨g5, 0, none⟩) 256 256] 48)).heap[wr.heap.size]? = some (.cells #[.slice (some ⟨g4, 0, none⟩) 256 256] 42 (0, 0)) := (alloc_old (lt_of_heap h1)).trans h1
                          refine hK.out _ _ (fun _ => ⟨(cell_heap (G2.block D hlDr (by simp) (by simp))).trans y1, (cell_heap (G2.block D hlDr (by simp) (by simp))).trans y2⟩) ?_
                          clear hK K
                          try simp only [Act.put, List.setIfInBounds_toArray, List.set_cons_zero, List.set_cons_succ]
                          generalize hV2 : W1.alloc (.cells #[.slice (some ⟨g5, 0, none⟩) 256 256] 48) = W2 at *
                          refine Till.all (rs := [4]) (by kernel_rfl) (by simp) (Each.cons rfl (fun K hK => ?_) Each.nil)
                          refine step_append_lies _ (by rfl) _ _ 43 rfl (D + 1) 42 m0 (.slice none 0 0) 1 24 Try.underlying43 HM.out HZM.out.1 HZM.out.2.1 HZM.out.2.2 rfl Nat.one_pos (.slice ada k cpa) k nv rfl (G2.own0 HOa1.out) ⟨wr.heap.size, 0, none⟩ 1 1 [.slice (some ⟨g4, 0, none⟩) 256 256] rfl rfl (one_at h1') (one_cell_one rfl) Nat.one_pos hk9 hk8 (Nat.le_trans hlDr G2.size) _ rfl ?_
                          intro g6 cap6 w6 hown6 hgrow6 hat6 hlt6
                          have G6 : Gr (Value.slice ada k cpa).ownBlock none wr w6 := (Gr.all G2).grown hgrow6 (fun g _ e => .inl e)
                          have h7 : w6.heap[W1.heap.size]? = some (.cells #[.slice (some ⟨g5, 0, none⟩) 256 256] 48 (0, 0)) := (hgrow6.block _ (lt_of_heap h2) (fun e => by have := (own_lt HOa1.out e.symm).2; have := G1.size; omega)).trans h2
                          have hown6y := hown6
                          refine hK.out _ _ (fun _ => ⟨(cell_heap (G6.block D hlDr hAD (by simp))).trans y1, (cell_heap (G6.block D hlDr hAD (by simp))).trans y2⟩) ?_
                          clear hK K
                          try simp only [Act.put, List.setIfInBounds_toArray]
                          refine Till.takePure (i := 10) (v := _) rfl (by kernel_rfl) (fun _ _ _ h => h) (Or.inl ⟨by rfl, fun w _ => by rfl⟩) (fun _ => ⟨(cell_heap (G6.block D hlDr hAD (by simp))).trans y1, (cell_heap (G6.block D hlDr hAD (by simp))).trans y2⟩) ?_
                          try simp only [Act.put]
                          refine Till.all (rs := [9]) (by kernel_rfl) (by simp) (Each.cons rfl (fun K hK => ?_) Each.nil)
                          refine step_append_lies _ (by rfl) _ _ 47 rfl (D + 1) 48 t0 (.slice none 0 0) 1 24 Try.underlying47 HT.out HZT.out.1 HZT.out.2.1 HZT.out.2.2 rfl Nat.one_pos (.slice adb k cpb) k ov rfl ((G6.own HOb1.out (fun g hg h => hapt g h hg) (fun _ _ => by simp))) ⟨W1.heap.size, 0, none⟩ 1 1 [.slice (some ⟨g5, 0, none⟩) 256 256] rfl rfl (one_at h7) (one_cell_one rfl) Nat.one_pos hk9 hk8 (Nat.le_trans hlDr G6.size) _ rfl ?_
                          intro g7 cap7 w7 hown7 hgrow7 hat7 hlt7
                          have GB : Gr (Value.slice ada k cpa).ownBlock (Value.slice adb k cpb).ownBlock wr w7 := (Gr.wide G6).grown hgrow7 (fun g _ e => .inr e)
                          have hD7 := (GB.block D hlDr hAD hBD).trans HD1.out
                          obtain ⟨x0, x1, x2, x3, x4⟩ := scells hD7
                          have f1 := free_box (i := 1) hD7
                          have f2 := free_box (i := 2) hD7
                          refine hK.out _ _ (fun _ => ⟨(cell_heap (GB.block D hlDr hAD hBD)).trans y1, (cell_heap (GB.block D hlDr hAD hBD)).trans y2⟩) ?_
                          clear hK K
                          try simp only [Act.put]
                          refine Till.all (rs := [11]) (by kernel_rfl) (by simp) (Each.cons rfl (fun K hK => ?_) Each.nil)
                          go_simp
                          refine hK.out _ _ (fun h => absurd h (by decide)) ?_
                          clear hK K
                          try simp only [Act.put, List.setIfInBounds_toArray, List.set_cons_zero, List.set_cons_succ]
                          refine Till.takePure (i := 12) (v := _) rfl (by kernel_rfl) (fun _ _ _ h => h) (Or.inl ⟨by rfl, fun w _ => by rfl⟩) (fun hL => absurd hL (by decide)) ?_
                          try simp only [Act.put, List.setIfInBounds_toArray]
                          refine Till.all (rs := [13]) (by kernel_rfl) (by simp) (Each.cons rfl (fun K hK => ?_) Each.nil)
                          go_simp
                          refine hK.out _ _ (fun h => absurd h (by decide)) ?_
                          clear hK K
                          try simp only [Act.put, List.setIfInBounds_toArray, List.set_cons_zero, List.set_cons_succ]
                          refine Till.done (by kernel_rfl) ?_ _
                          go_wp2_with fail
                          go_meet
                          exact ⟨_, _, _, _, w7, rfl, GB, own_second (wr := wr) hgrow7 hown6y hat6 G2.size hapt (fun g hg => (own_lt HOb1.out hg).2), hown7⟩
                      · go_simp
                        have G1 : Gr none none wr ((wr.alloc (.cells #[.slice (some ⟨g5, 0, none⟩) 256 256] 48)).drew) := ((Gr.refl _ _ wr).alloc _).drew
                        have h1 : ((wr.alloc (.cells #[.slice (some ⟨g5, 0, none⟩) 256 256] 48)).drew).heap[wr.heap.size]? = some (.cells #[.slice (some ⟨g5, 0, none⟩) 256 256] 48 (0, 0)) := heap_alloc_new _ _
                        refine hK.out _ _ (fun _ => ⟨(cell_heap (G1.block D hlDr (by simp) (by simp))).trans y1, (cell_heap (G1.block D hlDr (by simp) (by simp))).trans y2⟩) ?_
                        clear hK K
                        try simp only [Act.put, List.setIfInBounds_toArray, List.set_cons_zero, List.set_cons_succ]
                        generalize ((wr.alloc (.cells #[.slice (some ⟨g5, 0, none⟩) 256 256] 48)).drew) = W1 at *
                        refine Till.all (rs := [3]) (by kernel_rfl) (by simp) (Each.cons rfl (fun K hK => ?_) Each.nil)
                        go_simp
                        have G2 := G1.alloc (.cells #[.slice (some ⟨g4, 0, none⟩) 256 256] 42)
                        have h2 : (W1.alloc (.cells #[.slice (some ⟨g4, 0, none⟩) 256 256] 42)).heap[W1.heap.size]? = some (.cells #[.slice (some ⟨g4, 0, none⟩) 256 256] 42 (0, 0)) := heap_alloc_new _ _
                        have h1' : (W1.alloc (.cells #[.slice (some ⟨g4, 0, none⟩) 256 256] 42)).heap[wr.heap.size]? = some (.cells #[.slice (some ⟨g5, 0, none⟩) 256 256] 48 (0, 0)) := (alloc_old (lt_of_heap h1)).trans h1
                        refine hK.out _ _ (fun _ => ⟨(cell_heap (G2.block D hlDr (by simp) (by simp))).trans y1, (cell_heap (G2.block D hlDr (by simp) (by simp))).trans y2⟩) ?_
                        clear hK K
                        try simp only [Act.put, List.setIfInBounds_toArray, List.set_cons_zero, List.set_cons_succ]
                        generalize hV2 : W1.alloc (.cells #[.slice (some ⟨g4, 0, none⟩) 256 256] 42) = W2 at *
                        refine Till.all (rs := [4]) (by kernel_rfl) (by simp) (Each.cons rfl (fun K hK => ?_) Each.nil)
                        refine step_append_lies _ (by rfl) _ _ 43 rfl (D + 1) 42 m0 (.slice none 0 0) 1 24 Try.underlying43 HM.out HZM.out.1 HZM.out.2.1 HZM.out.2.2 rfl Nat.one_pos (.slice ada k cpa) k nv rfl (G2.own0 HOa1.out) ⟨W1.heap.size, 0, none⟩ 1 1 [.slice (some ⟨g4, 0, none⟩) 256 256] rfl rfl (one_at h2) (one_cell_one rfl) Nat.one_pos hk9 hk8 (Nat.le_trans hlDr G2.size) _ rfl ?_
                        intro g6 cap6 w6 hown6 hgrow6 hat6 hlt6
                        have G6 : Gr (Value.slice ada k cpa).ownBlock none wr w6 := (Gr.all G2).grown hgrow6 (fun g _ e => .inl e)
                        have h7 : w6.heap[wr.heap.size]? = some (.cells #[.slice (some ⟨g5, 0, none⟩) 256 256] 48 (0, 0)) := (hgrow6.block _ (lt_of_heap h1') (fun e => by have := (own_lt HOa1.out e.symm).2; omega)).trans h1'
                        have hown6y := hown6
                        refine hK.out _ _ (fun _ => ⟨(cell_heap (G6.block D hlDr hAD (by simp))).trans y1, (cell_heap (G6.block D hlDr hAD (by simp))).trans y2⟩) ?_
                        clear hK K
                        try simp only [Act.put, List.setIfInBounds_toArray]
                        refine Till.takePure (i := 10) (v := _) rfl (by kernel_rfl) (fun _ _ _ h => h) (Or.inl ⟨by rfl, fun w _ => by rfl⟩) (fun _ => ⟨(cell_heap (G6.block D hlDr hAD (by simp))).trans y1, (cell_heap (G6.block D hlDr hAD (by simp))).trans y2⟩) ?_
                        try simp only [Act.put]
                        refine Till.all (rs := [9]) (by kernel_rfl) (by simp) (Each.cons rfl (fun K hK => ?_) Each.nil)
                        refine step_append_lies _ (by rfl) _ _ 47 rfl (D + 1) 48 t0 (.slice none 0 0) 1 24 Try.underlying47 HT.out HZT.out.1 HZT.out.2.1 HZT.out.2.2 rfl Nat.one_pos (.slice adb k cpb) k ov rfl ((G6.own HOb1.out (fun g hg h => hapt g h hg) (fun _ _ => by simp))) ⟨wr.heap.size, 0, none⟩ 1 1 [.slice (some ⟨g5, 0, none⟩) 256 256] rfl rfl (one_at h7) (one_cell_one rfl) Nat.one_pos hk9 hk8 (Nat.le_trans hlDr G6.size) _ rfl ?_
                        intro g7 cap7 w7 hown7 hgrow7 hat7 hlt7
                        have GB : Gr (Value.slice ada k cpa).ownBlock (Value.slice adb k cpb).ownBlock wr w7 := (Gr.wide G6).grown hgrow7 (fun g _ e => .inr e)
                        have hD7 := (GB.block D hlDr hAD hBD).trans HD1.out
                        obtain ⟨x0, x1, x2, x3, x4⟩ := scells hD7
                        have f1 := free_box (i := 1) hD7
                        have f2 := free_box (i := 2) hD7
                        refine hK.out _ _ (fun _ => ⟨(cell_heap (GB.block D hlDr hAD hBD)).trans y1, (cell_heap (GB.block D hlDr hAD hBD)).trans y2⟩) ?_
                        clear hK K
                        try simp only [Act.put]
                        refine Till.all (rs := [11]) (by kernel_rfl) (by simp) (Each.cons rfl (fun K hK => ?_) Each.nil)
                        go_simp
                        refine hK.out _ _ (fun h => absurd h (by decide)) ?_
                        clear hK K
                        try simp only [Act.put, List.setIfInBounds_toArray, List.set_cons_zero, List.set_cons_succ]
                        refine Till.takePure (i := 12) (v := _) rfl (by kernel_rfl) (fun _ _ _ h => h) (Or.inl ⟨by rfl, fun w _ => by rfl⟩) (fun hL => absurd hL (by decide)) ?_
                        try simp only [Act.put, List.setIfInBounds_toArray]
                        refine Till.all (rs := [13]) (by kernel_rfl) (by simp) (Each.cons rfl (fun K hK => ?_) Each.nil)
                        go_simp
                        refine hK.out _ _ (fun h => absurd h (by decide)) ?_
                        clear hK K
                        try simp only [Act.put, List.setIfInBounds_toArray, List.set_cons_zero, List.set_cons_succ]
                        refine Till.done (by kernel_rfl) ?_ _
                        go_wp2_with fail
                        go_meet
                        exact ⟨_, _, _, _, w7, rfl, GB, own_second (wr := wr) hgrow7 hown6y hat6 G2.size hapt (fun g hg => (own_lt HOb1.out hg).2), hown7⟩
                    case rest =>
                      obtain ⟨ad1, cp1, ad2, cp2, W4, rfl, GB, hn1, ho1⟩ := hcut
                      have hD4 := (GB.block D hlDr hAD hBD).trans HD1.out
                      have HO1 := hid (own_blk_set (i := 2) (u := .slice ad2 (k + 1) cp2) (own_blk_set (i := 1) (u := .slice ad1 (k + 1) cp1) hn1 (Nat.lt_succ_self D)) (Nat.lt_succ_self D))
                      have HO2 := hid (own_blk_set (i := 2) (u := .slice ad2 (k + 1) cp2) (own_blk_set (i := 1) (u := .slice ad1 (k + 1) cp1) ho1 (Nat.lt_succ_self D)) (Nat.lt_succ_self D))
                      have HD5 : Hid (((W4.setCell ⟨D, 1, none⟩ (.slice ad1 (k + 1) cp1)).setCell ⟨D, 2, none⟩ (.slice ad2 (k + 1) cp2)).heap[D]? = some (.cells #[sV fr, .slice ad1 (k + 1) cp1, .slice ad2 (k + 1) cp2, .slice adc k cpc, .slice ade k cpe] 50 (0, 0))) := hid (by rw [heap_setCell_same _ _ _ _ _ _ (heap_setCell_same _ _ _ _ _ _ hD4)]; rfl)
                      have HB5 : Hid (Below D wr ((W4.setCell ⟨D, 1, none⟩ (.slice ad1 (k + 1) cp1)).setCell ⟨D, 2, none⟩ (.slice ad2 (k + 1) cp2))) := hid (((GB.below (D := D) (by omega) (fun g hg => by have := (own_lt HOa1.out hg).1; omega) (fun g hg => by have := (own_lt HOb1.out hg).1; omega)).setCell (by simp) _).setCell (by simp) _)
                      have HKEEP : Hid (∀ {e n : Nat} {v : Value} {xs : List Value}, wr.ownsRow (D + 1) e 1 v n xs → e ≠ 42 → e ≠ 48 → ((W4.setCell ⟨D, 1, none⟩ (.slice ad1 (k + 1) cp1)).setCell ⟨D, 2, none⟩ (.slice ad2 (k + 1) cp2)).ownsRow (D + 1) e 1 v n xs) := hid (fun h he1 he2 => own_blk_set (own_blk_set (GB.own h (fun g hg hg' => own_apart h HOa1.out he1 g hg hg') (fun g hg hg' => own_apart h HOb1.out he2 g hg hg')) (Nat.lt_succ_self D)) (Nat.lt_succ_self D))
                      have hdo : D + 1 ≤ wo.heap.size := hlD
                      have HOc5 := hid (HKEEP.out (own_kp HOc.out HKX.out (tag_ne HRr.out (by decide))) (by decide) (by decide))
                      have HOe5 := hid (HKEEP.out (own_kp HOe.out HKX.out (tag_ne HRr.out tag_rds)) (by decide) (by decide))
                      have HOn5 := hid (HKEEP.out (own_mono HOX.out hdo) (by decide) (by decide))
                      have HOo5 := hid (HKEEP.out (own_mono HOY.out hdo) (by decide) (by decide))
                      have HLN5 := hid (HLN.out.map fun v l h => HKEEP.out (own_kp h HKX.out (tag_ne HRr.out tag_rdi)) (by decide) (by decide))
                      have HLO5 := hid (HLO.out.map fun v l h => HKEEP.out (own_kp h HKX.out (tag_ne HRr.out tag_rds)) (by decide) (by decide))
                      have HR5 := hid (HRX.out.below HB5.out (by omega) (fun g hg => by have := HFb.out g hg; omega))
                      have HK5 := hid ((HKP.out.trans HKX.out).below (HB5.out.mono (by omega)))
                      have HZ5 := hid ((HB5.out.block w.heap.size hsz1).trans ((HKX.out.block w.heap.size (by omega) (by omega)).trans HZ.out))
                      have hEo : (Value.slice ade k cpe).ownBlock ≠ some g5 := fun e => by have := (own_lt HOe.out e).2; omega
                      clear HD1 HOa1 HOb1 y0 y1 y2 y3 y4 hAD hBD hapt hn1 ho1 hD4 HKEEP hlDr HOc HOe HOX HOY HLN HLO HRX HKX HZ hk8
                      generalize (W4.setCell ⟨D, 1, none⟩ (.slice ad1 (k + 1) cp1)).setCell ⟨D, 2, none⟩ (.slice ad2 (k + 1) cp2) = W5 at *
                      obtain ⟨y0, y1, y2, y3, y4⟩ := scells HD5.out
                      have hlDr : D < W5.heap.size := lt_of_heap HD5.out
                      have hAD : (Value.slice adc k cpc).ownBlock ≠ some D := fun e => by have := (own_lt HOc5.out e).1; omega
                      have hBD : (Value.slice ade k cpe).ownBlock ≠ some D := fun e => by have := (own_lt HOe5.out e).1; omega
                      have hapt := own_apart HOc5.out HOe5.out (by decide)
                      have hk8a : (k + 1) * 1 ≤ 140737488355328 := by omega
                      have hk8b : (k + 1) * 16 ≤ 140737488355328 := by omega
                      go_upto_region 21 with fail
                      have HNEW := hid (show sstates s r2 = ((rows ++ [(sstate rk).1]) ++ (sstates (s - (k + 1)) rn).1, (sstates (s - (k + 1)) rn).2) by have h := HST.out; rw [HAJ.out] at h ⊢; exact h)
                      have er : (sstate rk).1 = ⟨ns, os, en, tl⟩ := by rw [HAJ.out]
                      have FIN : ∀ ad3 cp3 ad4 cp4 (W6 : World), Gr (Value.slice adc k cpc).ownBlock (Value.slice ade k cpe).ownBlock W5 W6 → W6.ownsRow (D + 1) 4 1 (.slice ad3 (k + 1) cp3) (k + 1) ((rows.map (·.fin)).map lV ++ [.bool en]) → W6.ownsRow (D + 1) 9 1 (.slice ad4 (k + 1) cp4) (k + 1) ((rows.map (·.tail)).map sV ++ [sV tl]) → (∀ g, (Value.slice ad4 (k + 1) cp4).ownBlock = some g → (Value.slice ade k cpe).ownBlock = some g ∨ W5.heap.size ≤ g) →
                          (((W6.setCell ⟨D, 3, none⟩ (.slice ad3 (k + 1) cp3)).setCell ⟨D, 4, none⟩ (.slice ad4 (k + 1) cp4)).heap[D]? = some (.cells #[sV fr, .slice ad1 (k + 1) cp1, .slice ad2 (k + 1) cp2, .slice ad3 (k + 1) cp3, .slice ad4 (k + 1) cp4] 50 (0, 0)) ∧
                           ((W6.setCell ⟨D, 3, none⟩ (.slice ad3 (k + 1) cp3)).setCell ⟨D, 4, none⟩ (.slice ad4 (k + 1) cp4)).ownsRow (D + 1) 42 1 (.slice ad1 (k + 1) cp1) (k + 1) (nv ++ [.slice (some ⟨g4, 0, none⟩) 256 256]) ∧
                           ((W6.setCell ⟨D, 3, none⟩ (.slice ad3 (k + 1) cp3)).setCell ⟨D, 4, none⟩ (.slice ad4 (k + 1) cp4)).ownsRow (D + 1) 48 1 (.slice ad2 (k + 1) cp2) (k + 1) (ov ++ [.slice (some ⟨g5, 0, none⟩) 256 256]) ∧
                           ((W6.setCell ⟨D, 3, none⟩ (.slice ad3 (k + 1) cp3)).setCell ⟨D, 4, none⟩ (.slice ad4 (k + 1) cp4)).ownsRow (D + 1) 4 1 (.slice ad3 (k + 1) cp3) (k + 1) (((rows ++ [(sstate rk).1]).map (·.fin)).map lV) ∧
                           ((W6.setCell ⟨D, 3, none⟩ (.slice ad3 (k + 1) cp3)).setCell ⟨D, 4, none⟩ (.slice ad4 (k + 1) cp4)).ownsRow (D + 1) 9 1 (.slice ad4 (k + 1) cp4) (k + 1) (((rows ++ [(sstate rk).1]).map (·.tail)).map sV) ∧
                           Lst 3 iV ((W6.setCell ⟨D, 3, none⟩ (.slice ad3 (k + 1) cp3)).setCell ⟨D, 4, none⟩ (.slice ad4 (k + 1) cp4)) (D + 1) (nv ++ [.slice (some ⟨g4, 0, none⟩) 256 256]) ((rows ++ [(sstate rk).1]).map (·.next)) ∧
                           Lst 9 sV ((W6.setCell ⟨D, 3, none⟩ (.slice ad3 (k + 1) cp3)).setCell ⟨D, 4, none⟩ (.slice ad4 (k + 1) cp4)) (D + 1) (ov ++ [.slice (some ⟨g5, 0, none⟩) 256 256]) ((rows ++ [(sstate rk).1]).map (·.outs)) ∧
                           RdAt F R ((W6.setCell ⟨D, 3, none⟩ (.slice ad3 (k + 1) cp3)).setCell ⟨D, 4, none⟩ (.slice ad4 (k + 1) cp4)) rn ∧ Kp R w ((W6.setCell ⟨D, 3, none⟩ (.slice ad3 (k + 1) cp3)).setCell ⟨D, 4, none⟩ (.slice ad4 (k + 1) cp4)) ∧
                           ((W6.setCell ⟨D, 3, none⟩ (.slice ad3 (k + 1) cp3)).setCell ⟨D, 4, none⟩ (.slice ad4 (k + 1) cp4)).heap[w.heap.size]? = some (.cells #[.string ⟨#[]⟩, .slice none 0 0, .slice none 0 0, .slice none 0 0, .slice none 0 0] 50 (0, 0)) ∧
                           (∀ x ∈ ov ++ [.slice (some ⟨g5, 0, none⟩) 256 256], ∀ g, x.ownBlock = some g → (Value.slice ad4 (k + 1) cp4).ownBlock ≠ some g)) := by
                        intro ad3 cp3 ad4 cp4 W6 gb n3 n4 hn4
                        exact seq_fin er gb HD5.out HO1.out HO2.out HOc5.out HOe5.out HOn5.out HOo5.out HLN5.out HLO5.out HR5.out HK5.out (by omega) (fun g hg => by have := HFb.out g hg; omega) hsz1 HZ5.out hap.out hEo n3 n4 hn4
                      refine Till.start (S := fun W => W.cell? ⟨D, 3, none⟩ = some (.slice adc k cpc) ∧ W.cell? ⟨D, 4, none⟩ = some (.slice ade k cpe)) (n := 11) (by kernel_rfl) ?_
                      refine Till.takePure (i := 0) (v := _) rfl (by kernel_rfl) (fun _ _ _ h => h) (Or.inl ⟨by rfl, fun w _ => by rfl⟩) (fun _ => ⟨y3, y4⟩) ?_
                      try simp only [Act.put, List.setIfInBounds_toArray]
                      refine Till.take (i := 1) (v := .slice adc k cpc) rfl (by kernel_rfl) (fun _ _ _ h => h) (Or.inl ⟨by rfl, fun w hS => by obtain ⟨hS1, hS2⟩ := hS; go_simp⟩) ⟨y3, y4⟩ ?_
                      try simp only [Act.put]
                      refine Till.takePure (i := 2) (v := _) rfl (by kernel_rfl) (fun _ _ _ h => h) (Or.inl ⟨by rfl, fun w _ => by rfl⟩) (fun _ => ⟨y3, y4⟩) ?_
                      try simp only [Act.put]
                      refine Till.takePure (i := 5) (v := _) rfl (by kernel_rfl) (fun _ _ _ h => h) (Or.inl ⟨by rfl, fun w _ => by rfl⟩) (fun _ => ⟨y3, y4⟩) ?_
                      try simp only [Act.put]
                      refine Till.take (i := 6) (v := .slice ade k cpe) rfl (by kernel_rfl) (fun _ _ _ h => h) (Or.inl ⟨by rfl, fun w hS => by obtain ⟨hS1, hS2⟩ := hS; go_simp⟩) ⟨y3, y4⟩ ?_
                      try simp only [Act.put]
                      refine Till.takePure (i := 7) (v := _) rfl (by kernel_rfl) (fun _ _ _ h => h) (Or.inl ⟨by rfl, fun w _ => by rfl⟩) (fun _ => ⟨y3, y4⟩) ?_
                      try simp only [Act.put]
                      refine Till.all (rs := [3, 8]) (by kernel_rfl) (by simp) (Each.cons rfl (fun K hK => ?_) (Each.cons rfl (fun K hK => ?_) Each.nil))
                      · go_simp
                        have G1 : Gr none none W5 (W5.alloc (.cells #[.bool en] 4)).drew := ((Gr.refl _ _ W5).alloc _).drew
                        have h1 : (W5.alloc (.cells #[.bool en] 4)).drew.heap[W5.heap.size]? = some (.cells #[.bool en] 4 (0, 0)) := heap_alloc_new _ _
                        refine hK.out _ _ (fun _ => ⟨(cell_heap (G1.block D hlDr (by simp) (by simp))).trans y3, (cell_heap (G1.block D hlDr (by simp) (by simp))).trans y4⟩) ?_
                        clear hK K
                        try simp only [Act.put, List.setIfInBounds_toArray, List.set_cons_zero, List.set_cons_succ]
                        generalize (W5.alloc (.cells #[.bool en] 4)).drew = W1 at *
                        refine Till.all (rs := [4, 8]) (by kernel_rfl) (by simp) (Each.cons rfl (fun K hK => ?_) (Each.cons rfl (fun K hK => ?_) Each.nil))
                        · refine step_append_lies _ (by rfl) _ _ 44 rfl (D + 1) 4 j0 (.bool false) 1 1 Try.underlying44 HJ.out HZJ.out.1 HZJ.out.2.1 HZJ.out.2.2 rfl Nat.one_pos (.slice adc k cpc) k ((rows.map (·.fin)).map lV) rfl (G1.own0 HOc5.out) ⟨W5.heap.size, 0, none⟩ 1 1 [.bool en] rfl rfl (one_at h1) (one_cell_one rfl) Nat.one_pos hk9 hk8a (Nat.le_trans hlDr G1.size) _ rfl ?_
                          intro g6 cap6 w6 hown6 hgrow6 hat6 hlt6
                          have G6 : Gr (Value.slice adc k cpc).ownBlock none W5 w6 := (Gr.all G1).grown hgrow6 (fun g _ e => .inl e)
                          refine hK.out _ _ (fun _ => ⟨(cell_heap (G6.block D hlDr hAD (by simp))).trans y3, (cell_heap (G6.block D hlDr hAD (by simp))).trans y4⟩) ?_
                          clear hK K
                          try simp only [Act.put, List.setIfInBounds_toArray]
                          refine Till.takePure (i := 10) (v := _) rfl (by kernel_rfl) (fun _ _ _ h => h) (Or.inl ⟨by rfl, fun w _ => by rfl⟩) (fun _ => ⟨(cell_heap (G6.block D hlDr hAD (by simp))).trans y3, (cell_heap (G6.block D hlDr hAD (by simp))).trans y4⟩) ?_
                          try simp only [Act.put]
                          refine Till.all (rs := [8]) (by kernel_rfl) (by simp) (Each.cons rfl (fun K hK => ?_) Each.nil)
                          go_simp
                          have G7 := G6.alloc (.cells #[sV tl] 9)
                          have h7 : (w6.alloc (.cells #[sV tl] 9)).heap[w6.heap.size]? = some (.cells #[sV tl] 9 (0, 0)) := heap_alloc_new _ _
                          have hown6y := hown6.alloc (.cells #[sV tl] 9)
                          refine hK.out _ _ (fun _ => ⟨(cell_heap (G7.block D hlDr hAD (by simp))).trans y3, (cell_heap (G7.block D hlDr hAD (by simp))).trans y4⟩) ?_
                          clear hK K
                          try simp only [Act.put, List.setIfInBounds_toArray, List.set_cons_zero, List.set_cons_succ]
                          refine Till.all (rs := [9]) (by kernel_rfl) (by simp) (Each.cons rfl (fun K hK => ?_) Each.nil)
                          refine step_append_lies _ (by rfl) _ _ 48 rfl (D + 1) 9 p0 (.string ⟨#[]⟩) 1 16 Try.underlying48 HP.out HZP.out.1 HZP.out.2.1 HZP.out.2.2 rfl Nat.one_pos (.slice ade k cpe) k ((rows.map (·.tail)).map sV) rfl (G7.own HOe5.out (fun g hg h => hapt g h hg) (fun _ _ => by simp)) ⟨w6.heap.size, 0, none⟩ 1 1 [sV tl] rfl rfl (one_at h7) (one_cell_one rfl) Nat.one_pos hk9 hk8b (Nat.le_trans hlDr G7.size) _ rfl ?_
                          intro g7 cap7 w7 hown7 hgrow7 hat7 hlt7
                          have GB : Gr (Value.slice adc k cpc).ownBlock (Value.slice ade k cpe).ownBlock W5 w7 := (Gr.wide G7).grown hgrow7 (fun g _ e => .inr e)
                          have hD7 := (GB.block D hlDr hAD hBD).trans HD5.out
                          obtain ⟨x0, x1, x2, x3, x4⟩ := scells hD7
                          have f1 := free_box (i := 3) hD7
                          have f2 := free_box (i := 4) hD7
                          refine hK.out _ _ (fun _ => ⟨(cell_heap (GB.block D hlDr hAD hBD)).trans y3, (cell_heap (GB.block D hlDr hAD hBD)).trans y4⟩) ?_
                          clear hK K
                          try simp only [Act.put, List.setIfInBounds_toArray]
                          refine Till.all (rs := [11]) (by kernel_rfl) (by simp) (Each.cons rfl (fun K hK => ?_) Each.nil)
                          go_simp
                          refine hK.out _ _ (fun h => absurd h (by decide)) ?_
                          clear hK K
                          try simp only [Act.put, List.setIfInBounds_toArray, List.set_cons_zero, List.set_cons_succ]
                          refine Till.takePure (i := 12) (v := _) rfl (by kernel_rfl) (fun _ _ _ h => h) (Or.inl ⟨by rfl, fun w _ => by rfl⟩) (fun hL => absurd hL (by decide)) ?_
                          try simp only [Act.put, List.setIfInBounds_toArray]
                          refine Till.all (rs := [13]) (by kernel_rfl) (by simp) (Each.cons rfl (fun K hK => ?_) Each.nil)
                          go_simp
                          refine hK.out _ _ (fun h => absurd h (by decide)) ?_
                          clear hK K
                          try simp only [Act.put, List.setIfInBounds_toArray, List.set_cons_zero, List.set_cons_succ]
                          refine Till.done (by kernel_rfl) ?_ _
                          obtain ⟨t1, t2, t3, t4, t5, t6, t7, t8, t9, t10, t11⟩ := FIN _ _ _ _ w7 GB (own_second (wr := W5) hgrow7 hown6y hat6 G1.size hapt (fun g hg => (own_lt HOe5.out hg).2)) hown7 (fun g hg => by cases hg; exact hat7.imp id (fun h => by rw [h]; exact G7.size))
                          go_wp2_with fail
                          refine And.intro ?_ ?_
                          · first | (refine ⟨k + 1, rows ++ [(sstate rk).1], _, _, _, _, _, _, rn, by omega, by go_num, t1, t2, t3, t4, t5, t6, t7, t8, t9, t10, hid t11, hid HNEW.out⟩) | (repeat apply Exists.intro; refine And.intro ?_ rfl; refine ⟨k + 1, rows ++ [(sstate rk).1], _, _, _, _, _, _, rn, by omega, by go_num, t1, t2, t3, t4, t5, t6, t7, t8, t9, t10, hid t11, hid HNEW.out⟩)
                          · simp [intOf]; omega
                        · go_simp
                          have G2 := G1.alloc (.cells #[sV tl] 9)
                          have h2 : (W1.alloc (.cells #[sV tl] 9)).heap[W1.heap.size]? = some (.cells #[sV tl] 9 (0, 0)) := heap_alloc_new _ _
                          have h1' : (W1.alloc (.cells #[sV tl] 9)).heap[W5.heap.size]? = some (.cells #[.bool en] 4 (0, 0)) := (alloc_old (lt_of_heap h1)).trans h1
                          refine hK.out _ _ (fun _ => ⟨(cell_heap (G2.block D hlDr (by simp) (by simp))).trans y3, (cell_heap (G2.block D hlDr (by simp) (by simp))).trans y4⟩) ?_
                          clear hK K
                          try simp only [Act.put, List.setIfInBounds_toArray, List.set_cons_zero, List.set_cons_succ]
                          generalize hV2 : W1.alloc (.cells #[sV tl] 9) = W2 at *
                          refine Till.all (rs := [4]) (by kernel_rfl) (by simp) (Each.cons rfl (fun K hK => ?_) Each.nil)
                          refine step_append_lies _ (by rfl) _ _ 44 rfl (D + 1) 4 j0 (.bool false) 1 1 Try.underlying44 HJ.out HZJ.out.1 HZJ.out.2.1 HZJ.out.2.2 rfl Nat.one_pos (.slice adc k cpc) k ((rows.map (·.fin)).map lV) rfl (G2.own0 HOc5.out) ⟨W5.heap.size, 0, none⟩ 1 1 [.bool en] rfl rfl (one_at h1') (one_cell_one rfl) Nat.one_pos hk9 hk8a (Nat.le_trans hlDr G2.size) _ rfl ?_
                          intro g6 cap6 w6 hown6 hgrow6 hat6 hlt6
                          have G6 : Gr (Value.slice adc k cpc).ownBlock none W5 w6 := (Gr.all G2).grown hgrow6 (fun g _ e => .inl e)
                          have h7 : w6.heap[W1.heap.size]? = some (.cells #[sV tl] 9 (0, 0)) := (hgrow6.block _ (lt_of_heap h2) (fun e => by have := (own_lt HOc5.out e.symm).2; have := G1.size; omega)).trans h2
                          have hown6y := hown6
                          refine hK.out _ _ (fun _ => ⟨(cell_heap (G6.block D hlDr hAD (by simp))).trans y3, (cell_heap (G6.block D hlDr hAD (by simp))).trans y4⟩) ?_
                          clear hK K
                          try simp only [Act.put, List.setIfInBounds_toArray]
                          refine Till.takePure (i := 10) (v := _) rfl (by kernel_rfl) (fun _ _ _ h => h) (Or.inl ⟨by rfl, fun w _ => by rfl⟩) (fun _ => ⟨(cell_heap (G6.block D hlDr hAD (by simp))).trans y3, (cell_heap (G6.block D hlDr hAD (by simp))).trans y4⟩) ?_
                          try simp only [Act.put]
                          refine Till.all (rs := [9]) (by kernel_rfl) (by simp) (Each.cons rfl (fun K hK => ?_) Each.nil)
                          refine step_append_lies _ (by rfl) _ _ 48 rfl (D + 1) 9 p0 (.string ⟨#[]⟩) 1 16 Try.underlying48 HP.out HZP.out.1 HZP.out.2.1 HZP.out.2.2 rfl Nat.one_pos (.slice ade k cpe) k ((rows.map (·.tail)).map sV) rfl (G6.own HOe5.out (fun g hg h => hapt g h hg) (fun _ _ => by simp)) ⟨W1.heap.size, 0, none⟩ 1 1 [sV tl] rfl rfl (one_at h7) (one_cell_one rfl) Nat.one_pos hk9 hk8b (Nat.le_trans hlDr G6.size) _ rfl ?_
                          intro g7 cap7 w7 hown7 hgrow7 hat7 hlt7
                          have GB : Gr (Value.slice adc k cpc).ownBlock (Value.slice ade k cpe).ownBlock W5 w7 := (Gr.wide G6).grown hgrow7 (fun g _ e => .inr e)
                          have hD7 := (GB.block D hlDr hAD hBD).trans HD5.out
                          obtain ⟨x0, x1, x2, x3, x4⟩ := scells hD7
                          have f1 := free_box (i := 3) hD7
                          have f2 := free_box (i := 4) hD7
                          refine hK.out _ _ (fun _ => ⟨(cell_heap (GB.block D hlDr hAD hBD)).trans y3, (cell_heap (GB.block D hlDr hAD hBD)).trans y4⟩) ?_
                          clear hK K
                          try simp only [Act.put]
                          refine Till.all (rs := [11]) (by kernel_rfl) (by simp) (Each.cons rfl (fun K hK => ?_) Each.nil)
                          go_simp
                          refine hK.out _ _ (fun h => absurd h (by decide)) ?_
                          clear hK K
                          try simp only [Act.put, List.setIfInBounds_toArray, List.set_cons_zero, List.set_cons_succ]
                          refine Till.takePure (i := 12) (v := _) rfl (by kernel_rfl) (fun _ _ _ h => h) (Or.inl ⟨by rfl, fun w _ => by rfl⟩) (fun hL => absurd hL (by decide)) ?_
                          try simp only [Act.put, List.setIfInBounds_toArray]
                          refine Till.all (rs := [13]) (by kernel_rfl) (by simp) (Each.cons rfl (fun K hK => ?_) Each.nil)
                          go_simp
                          refine hK.out _ _ (fun h => absurd h (by decide)) ?_
                          clear hK K
                          try simp only [Act.put, List.setIfInBounds_toArray, List.set_cons_zero, List.set_cons_succ]
                          refine Till.done (by kernel_rfl) ?_ _
                          obtain ⟨t1, t2, t3, t4, t5, t6, t7, t8, t9, t10, t11⟩ := FIN _ _ _ _ w7 GB (own_second (wr := W5) hgrow7 hown6y hat6 G2.size hapt (fun g hg => (own_lt HOe5.out hg).2)) hown7 (fun g hg => by cases hg; exact hat7.imp id (fun h => by rw [h]; exact G6.size))
                          go_wp2_with fail
                          refine And.intro ?_ ?_
                          · first | (refine ⟨k + 1, rows ++ [(sstate rk).1], _, _, _, _, _, _, rn, by omega, by go_num, t1, t2, t3, t4, t5, t6, t7, t8, t9, t10, hid t11, hid HNEW.out⟩) | (repeat apply Exists.intro; refine And.intro ?_ rfl; refine ⟨k + 1, rows ++ [(sstate rk).1], _, _, _, _, _, _, rn, by omega, by go_num, t1, t2, t3, t4, t5, t6, t7, t8, t9, t10, hid t11, hid HNEW.out⟩)
                          · simp [intOf]; omega
                      · go_simp
                        have G1 : Gr none none W5 (W5.alloc (.cells #[sV tl] 9)).drew := ((Gr.refl _ _ W5).alloc _).drew
                        have h1 : (W5.alloc (.cells #[sV tl] 9)).drew.heap[W5.heap.size]? = some (.cells #[sV tl] 9 (0, 0)) := heap_alloc_new _ _
                        refine hK.out _ _ (fun _ => ⟨(cell_heap (G1.block D hlDr (by simp) (by simp))).trans y3, (cell_heap (G1.block D hlDr (by simp) (by simp))).trans y4⟩) ?_
                        clear hK K
                        try simp only [Act.put, List.setIfInBounds_toArray, List.set_cons_zero, List.set_cons_succ]
                        generalize (W5.alloc (.cells #[sV tl] 9)).drew = W1 at *
                        refine Till.all (rs := [3]) (by kernel_rfl) (by simp) (Each.cons rfl (fun K hK => ?_) Each.nil)
                        go_simp
                        have G2 := G1.alloc (.cells #[.bool en] 4)
                        have h2 : (W1.alloc (.cells #[.bool en] 4)).heap[W1.heap.size]? = some (.cells #[.bool en] 4 (0, 0)) := heap_alloc_new _ _
                        have h1' : (W1.alloc (.cells #[.bool en] 4)).heap[W5.heap.size]? = some (.cells #[sV tl] 9 (0, 0)) := (alloc_old (lt_of_heap h1)).trans h1
                        refine hK.out _ _ (fun _ => ⟨(cell_heap (G2.block D hlDr (by simp) (by simp))).trans y3, (cell_heap (G2.block D hlDr (by simp) (by simp))).trans y4⟩) ?_
                        clear hK K
                        try simp only [Act.put, List.setIfInBounds_toArray, List.set_cons_zero, List.set_cons_succ]
                        generalize hV2 : W1.alloc (.cells #[.bool en] 4) = W2 at *
                        refine Till.all (rs := [4]) (by kernel_rfl) (by simp) (Each.cons rfl (fun K hK => ?_) Each.nil)
                        refine step_append_lies _ (by rfl) _ _ 44 rfl (D + 1) 4 j0 (.bool false) 1 1 Try.underlying44 HJ.out HZJ.out.1 HZJ.out.2.1 HZJ.out.2.2 rfl Nat.one_pos (.slice adc k cpc) k ((rows.map (·.fin)).map lV) rfl (G2.own0 HOc5.out) ⟨W1.heap.size, 0, none⟩ 1 1 [.bool en] rfl rfl (one_at h2) (one_cell_one rfl) Nat.one_pos hk9 hk8a (Nat.le_trans hlDr G2.size) _ rfl ?_
                        intro g6 cap6 w6 hown6 hgrow6 hat6 hlt6
                        have G6 : Gr (Value.slice adc k cpc).ownBlock none W5 w6 := (Gr.all G2).grown hgrow6 (fun g _ e => .inl e)
                        have h7 : w6.heap[W5.heap.size]? = some (.cells #[sV tl] 9 (0, 0)) := (hgrow6.block _ (lt_of_heap h1') (fun e => by have := (own_lt HOc5.out e.symm).2; omega)).trans h1'
                        have hown6y := hown6
                        refine hK.out _ _ (fun _ => ⟨(cell_heap (G6.block D hlDr hAD (by simp))).trans y3, (cell_heap (G6.block D hlDr hAD (by simp))).trans y4⟩) ?_
                        clear hK K
                        try simp only [Act.put, List.setIfInBounds_toArray]
                        refine Till.takePure (i := 10) (v := _) rfl (by kernel_rfl) (fun _ _ _ h => h) (Or.inl ⟨by rfl, fun w _ => by rfl⟩) (fun _ => ⟨(cell_heap (G6.block D hlDr hAD (by simp))).trans y3, (cell_heap (G6.block D hlDr hAD (by simp))).trans y4⟩) ?_
                        try simp only [Act.put]
                        refine Till.all (rs := [9]) (by kernel_rfl) (by simp) (Each.cons rfl (fun K hK => ?_) Each.nil)
                        refine step_append_lies _ (by rfl) _ _ 48 rfl (D + 1) 9 p0 (.string ⟨#[]⟩) 1 16 Try.underlying48 HP.out HZP.out.1 HZP.out.2.1 HZP.out.2.2 rfl Nat.one_pos (.slice ade k cpe) k ((rows.map (·.tail)).map sV) rfl (G6.own HOe5.out (fun g hg h => hapt g h hg) (fun _ _ => by simp)) ⟨W5.heap.size, 0, none⟩ 1 1 [sV tl] rfl rfl (one_at h7) (one_cell_one rfl) Nat.one_pos hk9 hk8b (Nat.le_trans hlDr G6.size) _ rfl ?_
                        intro g7 cap7 w7 hown7 hgrow7 hat7 hlt7
                        have GB : Gr (Value.slice adc k cpc).ownBlock (Value.slice ade k cpe).ownBlock W5 w7 := (Gr.wide G6).grown hgrow7 (fun g _ e => .inr e)
                        have hD7 := (GB.block D hlDr hAD hBD).trans HD5.out
                        obtain ⟨x0, x1, x2, x3, x4⟩ := scells hD7
                        have f1 := free_box (i := 3) hD7
                        have f2 := free_box (i := 4) hD7
                        refine hK.out _ _ (fun _ => ⟨(cell_heap (GB.block D hlDr hAD hBD)).trans y3, (cell_heap (GB.block D hlDr hAD hBD)).trans y4⟩) ?_
                        clear hK K
                        try simp only [Act.put]
                        refine Till.all (rs := [11]) (by kernel_rfl) (by simp) (Each.cons rfl (fun K hK => ?_) Each.nil)
                        go_simp
                        refine hK.out _ _ (fun h => absurd h (by decide)) ?_
                        clear hK K
                        try simp only [Act.put, List.setIfInBounds_toArray, List.set_cons_zero, List.set_cons_succ]
                        refine Till.takePure (i := 12) (v := _) rfl (by kernel_rfl) (fun _ _ _ h => h) (Or.inl ⟨by rfl, fun w _ => by rfl⟩) (fun hL => absurd hL (by decide)) ?_
                        try simp only [Act.put, List.setIfInBounds_toArray]
                        refine Till.all (rs := [13]) (by kernel_rfl) (by simp) (Each.cons rfl (fun K hK => ?_) Each.nil)
                        go_simp
                        refine hK.out _ _ (fun h => absurd h (by decide)) ?_
                        clear hK K
                        try simp only [Act.put, List.setIfInBounds_toArray, List.set_cons_zero, List.set_cons_succ]
                        refine Till.done (by kernel_rfl) ?_ _
                        obtain ⟨t1, t2, t3, t4, t5, t6, t7, t8, t9, t10, t11⟩ := FIN _ _ _ _ w7 GB (own_second (wr := W5) hgrow7 hown6y hat6 G2.size hapt (fun g hg => (own_lt HOe5.out hg).2)) hown7 (fun g hg => by cases hg; exact hat7.imp id (fun h => by rw [h]; exact G6.size))
                        go_wp2_with fail
                        refine And.intro ?_ ?_
                        · first | (refine ⟨k + 1, rows ++ [(sstate rk).1], _, _, _, _, _, _, rn, by omega, by go_num, t1, t2, t3, t4, t5, t6, t7, t8, t9, t10, hid t11, hid HNEW.out⟩) | (repeat apply Exists.intro; refine And.intro ?_ rfl; refine ⟨k + 1, rows ++ [(sstate rk).1], _, _, _, _, _, _, rn, by omega, by go_num, t1, t2, t3, t4, t5, t6, t7, t8, t9, t10, hid t11, hid HNEW.out⟩)
                        · simp [intOf]; omega
      · have HR9 := hid (show sq r = (⟨fr, rows.map (·.next), rows.map (·.outs), rows.map (·.fin), rows.map (·.tail)⟩, rk) by rw [HA.out]; have h := hst.out; rw [sstates_bad _ hbad] at h; rw [h]; simp)
        rw [hbad] at z1
        clear hst hbad
        obtain ⟨e0, e1, e2, e3, e4⟩ := scells HZ.out
        have f0 := free_box (i := 0) HZ.out
        have f1 := free_box (i := 1) HZ.out
        have f2 := free_box (i := 2) HZ.out
        have f3 := free_box (i := 3) HZ.out
        have f4 := free_box (i := 4) HZ.out
        go_wp2_with fail
        refine bodyPost_ret (results_cell_row (ty := 50) rfl _ _ w.heap.size 50 _ (0, 0) _ rfl (five_end HZ.out) Try.underlying50 rfl (by kernel_rfl)) rfl ?_
        rw [HR9.out]
        exact ⟨_, _, _, _, _, rfl, sq_end (by omega) HOa.out HOb.out HOc.out HOe.out HLN.out HLO.out, HRr.out.below below_sEnd hlt HFb.out, HKP.out.below below_sEnd⟩
    · obtain rfl : k = s := by omega
      have HR9 := hid (show sq r = (⟨fr, rows.map (·.next), rows.map (·.outs), rows.map (·.fin), rows.map (·.tail)⟩, rk) by rw [HA.out]; have h := hst.out; rw [h]; simp [sstates])
      clear hst
      obtain ⟨e0, e1, e2, e3, e4⟩ := scells HZ.out
      have f0 := free_box (i := 0) HZ.out
      have f1 := free_box (i := 1) HZ.out
      have f2 := free_box (i := 2) HZ.out
      have f3 := free_box (i := 3) HZ.out
      have f4 := free_box (i := 4) HZ.out
      go_wp2_with fail
      refine bodyPost_ret (results_cell_row (ty := 50) rfl _ _ w.heap.size 50 _ (0, 0) _ rfl (five_end HZ.out) Try.underlying50 rfl (by kernel_rfl)) rfl ?_
      rw [HR9.out]
      exact ⟨_, _, _, _, _, rfl, sq_end (by omega) HOa.out HOb.out HOc.out HOe.out HLN.out HLO.out, HRr.out.below below_sEnd hlt HFb.out, HKP.out.below below_sEnd⟩
end Go.Proofs.Ytdokeelodcckoaa.Im
