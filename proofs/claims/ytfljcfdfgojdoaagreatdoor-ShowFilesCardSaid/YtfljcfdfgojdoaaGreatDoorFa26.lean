/-
  Plain: what tells whether an item is right, and what may be one.
  A slice of items in memory, wherever it lies; what the sizes of a right item's parts are.
  Items that came in, read off the row's datum. (Printed by genIz.py.)
  Rows of truths in memory; small laws about rows of one's own.
-/
import Derived.Test.YtfljcfdfgojdoaaGreatDoorFa25
import Derived.Test.YtfljcfdfgojdoaaGreatDoorFa24
import Derived.ChangeArms
import Derived.Test.YtfljcfdfgojdoaaGreatDoorFa19
import Derived.Test.YtfljcfdfgojdoaaGreatDoorFa07
import Derived.Test.YtfljcfdfgojdoaaGreatDoorFa04
import Derived.Deep.Slices
import Derived.OwnWalk
namespace Go.Proofs.YtfljcfdfgojdoaaGreatDoor.Sh
open Go.RowKit Go.Lib Go.Proofs.YtfljcfdfgojdoaaGreatDoor

/-- the same for all places in which an item may lie -/
def iwOf (x : It) : Iw := ⟨x.kind, x.name, rwOf x.re, mwOf x.map, x.out, x.by_, x.around, rwOf x.left, rwOf x.right⟩
def itX (x : It) : Bool := itB x (iwOf x)
theorem ReG.same {F : Nat → Prop} {w : World} {r : Re} {y : Rw} (h : ReG F w r y.cs) : y.k = (rwOf r).k ∧ y.x = (rwOf r).x ∧ y.s = (rwOf r).s ∧ y.n = (rwOf r).n ∧ y.mn = (rwOf r).mn ∧ y.mx = (rwOf r).mx := by
  obtain ⟨k, x, s, ps, mn, mx⟩ := r
  obtain ⟨ad, cap, e, _, _⟩ := h.open
  obtain ⟨yk, yx, ⟨a1, a2, a3, a4⟩, yad, yn, ycap, ymn, ymx⟩ := y
  obtain ⟨b1, b2, b3, b4⟩ := s
  simp only [Rw.cs, reC, Array.mk.injEq, List.cons.injEq, Value.int.injEq, Value.string.injEq, Value.slice.injEq, ByteArray.mk.injEq, true_and, and_true] at e
  obtain ⟨rfl, e2, rfl, rfl, rfl, rfl, ⟨rfl, rfl, rfl⟩, rfl, rfl⟩ := e
  obtain rfl : yx = x := by simpa using e2
  exact ⟨rfl, rfl, rfl, rfl, rfl, rfl⟩
theorem emptyRw_same {F : Nat → Prop} {w : World} {r : Re} {y : Rw} (h : ReG F w r y.cs) : emptyRw y = emptyRw (rwOf r) := by
  obtain ⟨h1, h2, h3, h4, h5, h6⟩ := h.same
  unfold emptyRw
  rw [h1, h2, h3, h4, h5, h6]
theorem emptyMw_same {F : Nat → Prop} {w : World} {m : Mp} {y : Mw} (h : MpG F w m y) : emptyMw y = emptyMw (mwOf m) := by
  obtain ⟨k, r, o, ps, mn, mx⟩ := m
  obtain ⟨h1, h2, h3, h4, h5, h6, _, _⟩ := h.open
  obtain ⟨g1, g2, g3, g4, g5, g6⟩ := h6.same
  unfold emptyMw emptyMB
  rw [g1, g2, g3, g4, g5, g6, h1, h2, h3, h4, h5]
  rfl
theorem itB_same {F : Nat → Prop} {w : World} {x : It} {y : Iw} (h : ItG F w x y) : itB x y = itX x := by
  have e1 := emptyRw_same h.r
  have e2 := emptyMw_same h.m
  have e3 := emptyRw_same h.l
  have e4 := emptyRw_same h.q
  have k := h.k
  have nm := h.nm
  have o := h.o
  have b := h.b
  have ar := h.ar
  obtain ⟨yk, yn, yr, ym, yo, yb, ya, yl, yq⟩ := y
  dsimp only at e1 e2 e3 e4 k nm o b ar
  subst k nm o b ar
  unfold itX itB
  congr 1
  show emptyI (restI _) = emptyI (restI (iwOf x))
  unfold restI iwOf
  dsimp only
  split
  · unfold emptyI; dsimp only; rw [e2, e3, e4]
  · split
    · unfold emptyI; dsimp only; rw [e1, e3, e4]
    · split
      · split
        · unfold emptyI; dsimp only; rw [e2]
        · unfold emptyI; dsimp only; rw [e2, e3, e4]
      · unfold emptyI; dsimp only; rw [e1, e2, e3, e4]
/-- a right item -/
inductive RtIt : It → Prop where
  | named (k : Int) (s : List B) (r : Re) (hk : k = 1 ∨ k = 4) (hs : nameOk s = true) (hr : OkRe 200 r) : RtIt ⟨k, s, r, Mp.zero, [], [], false, Re.zero, Re.zero⟩
  | map (s : List B) (m : Mp) (hs : nameOk s = true) (hm : OkMp 200 m) : RtIt ⟨2, s, Re.zero, m, [], [], false, Re.zero, Re.zero⟩
  | rule (r : Re) (o b : List B) (hr : OkRe 200 r) (ho : o.length ≤ 256) (hb : b = [] ∨ (o = [] ∧ nameOk b = true)) : RtIt ⟨3, [], r, Mp.zero, o, b, false, Re.zero, Re.zero⟩
  | around (r : Re) (o b : List B) (l q : Re) (hr : OkRe 200 r) (ho : o.length ≤ 256) (hb : b = [] ∨ (o = [] ∧ nameOk b = true)) (hl : OkRe 200 l) (hq : OkRe 200 q) : RtIt ⟨3, [], r, Mp.zero, o, b, true, l, q⟩
theorem emptyRw_zero {r : Re} (h : emptyRw (rwOf r) = true) : r = Re.zero := emptyB_zero h
theorem emptyMw_zero {m : Mp} (h : emptyMw (mwOf m) = true) : m = Mp.zero := by
  obtain ⟨k, r, o, ps, mn, mx⟩ := m
  unfold emptyMw emptyMB mwOf at h
  simp only [Bool.and_eq_true, decide_eq_true_eq] at h
  obtain ⟨rfl, h2, rfl, h4, rfl, rfl⟩ := h
  obtain rfl := emptyB_zero h2
  obtain rfl := List.length_eq_zero_iff.1 h4
  rfl
theorem RtIt.of {x : It} (h : itX x = true) : RtIt x := by
  obtain ⟨k, s, r, m, o, b, ar, l, q⟩ := x
  unfold itX itB at h
  rw [Bool.and_eq_true] at h
  obtain ⟨h1, h2⟩ := h
  by_cases hk : k = 1 ∨ k = 4
  · rw [okI_14 hk, Bool.and_eq_true] at h1
    rw [restI_14 hk] at h2
    unfold emptyI iwOf at h2
    simp only [Bool.and_eq_true, decide_eq_true_eq, Bool.not_eq_true'] at h2
    obtain ⟨_, _, e3, rfl, rfl, rfl, e7, e8⟩ := h2
    obtain rfl := emptyMw_zero e3
    obtain rfl := emptyRw_zero e7
    obtain rfl := emptyRw_zero e8
    exact .named _ _ _ hk h1.1 (okB_of h1.2)
  · by_cases hk2 : k = 2
    · subst hk2
      rw [okI_2 rfl, Bool.and_eq_true] at h1
      rw [restI_2 rfl] at h2
      unfold emptyI iwOf at h2
      simp only [Bool.and_eq_true, decide_eq_true_eq, Bool.not_eq_true'] at h2
      obtain ⟨_, e2, _, rfl, rfl, rfl, e7, e8⟩ := h2
      obtain rfl := emptyRw_zero e2
      obtain rfl := emptyRw_zero e7
      obtain rfl := emptyRw_zero e8
      exact .map _ _ h1.1 (okMp_of h1.2)
    · by_cases hk3 : k = 3
      · subst hk3
        rw [okI_3 rfl] at h1
        rw [restI_3 rfl] at h2
        simp only [Bool.and_eq_true, decide_eq_true_eq, Bool.or_eq_true, Bool.not_eq_true'] at h1
        obtain ⟨⟨⟨a1, a2⟩, a3⟩, a4⟩ := h1
        have hb : b = [] ∨ (o = [] ∧ nameOk b = true) := a3
        cases ar with
        | true =>
          rw [if_pos (show (iwOf ⟨3, s, r, m, o, b, true, l, q⟩).ar = true from rfl)] at h2
          unfold emptyI iwOf at h2
          simp only [Bool.and_eq_true, decide_eq_true_eq, Bool.not_eq_true'] at h2
          obtain ⟨rfl, _, e3, _, _, _, _, _⟩ := h2
          obtain rfl := emptyMw_zero e3
          have a5 := a4.resolve_left (by decide)
          exact .around _ _ _ _ _ (okB_of a1) a2 hb (okB_of a5.1) (okB_of a5.2)
        | false =>
          rw [if_neg (show ¬ (iwOf ⟨3, s, r, m, o, b, false, l, q⟩).ar = true from by intro h; cases h)] at h2
          unfold emptyI iwOf at h2
          simp only [Bool.and_eq_true, decide_eq_true_eq, Bool.not_eq_true'] at h2
          obtain ⟨rfl, _, e3, _, _, _, e7, e8⟩ := h2
          obtain rfl := emptyMw_zero e3
          obtain rfl := emptyRw_zero e7
          obtain rfl := emptyRw_zero e8
          exact .rule _ _ _ (okB_of a1) a2 hb
      · rw [okI_no hk hk2 hk3] at h1
        cases h1
/-- what show.File tells -/
def showFile (l : List It) : List B × Int :=
  if 256 < l.length then ([], 2) else if l.all itX = true then endM (l.flatMap (itemW setS)) ((l.map itemD).foldl max 0) else ([], 1)
end Go.Proofs.YtfljcfdfgojdoaaGreatDoor.Sh

namespace Go.Proofs.YtfljcfdfgojdoaaGreatDoor.Sh
open Go.RowKit Go.Lib Go.Proofs.YtfljcfdfgojdoaaGreatDoor

structure ItsR (F : Nat → Prop) (w : World) (l : List It) (ad : Option Addr) : Prop where
  len : l.length ≤ maxLen
  at' : l ≠ [] → ∃ g off, ad = some ⟨g, off, none⟩ ∧ F g ∧ ∀ i x, l[i]? = some x → ∃ y : Iw, ItG F w x y ∧ w.rangeAt g (off + i * 46) y.cs.toList
theorem ItsR.below {F : Nat → Prop} {w w' : World} {base : Nat} {l : List It} {ad : Option Addr} (h : ItsR F w l ad) (hF : ∀ g, F g → g < base) (_hbw : base ≤ w.heap.size) (hb : Below base w w') : ItsR F w' l ad := by
  refine ⟨h.len, fun hl => ?_⟩
  obtain ⟨g, off, e, hg, hp⟩ := h.at' hl
  refine ⟨g, off, e, hg, fun i x hi => ?_⟩
  obtain ⟨y, h1, h2⟩ := hp i x hi
  refine ⟨y, ⟨h1.k, h1.nm, h1.r.below hF hb, h1.m.below hF hb, h1.o, h1.b, h1.ar, h1.l.below hF hb, h1.q.below hF hb⟩, fun j v hv => ?_⟩
  exact (hb.cell (p := ⟨g, off + i * 46 + j, none⟩) (hF g hg)).trans (h2 j v hv)
theorem ItsG.r {F : Nat → Prop} {w : World} {l : List It} {v : Value} (h : Go.Proofs.YtfljcfdfgojdoaaGreatDoor.ItsG F w l v) : ∃ ad cap, v = .slice ad l.length cap ∧ ItsR F w l ad := by
  obtain ⟨ad, cap, rfl, ho⟩ := h.open
  refine ⟨ad, cap, rfl, ?_⟩
  rcases ho with ⟨rfl, rfl⟩ | ⟨g, rfl, _, hF, h1, h2, hp⟩
  · exact ⟨Nat.zero_le _, fun h => absurd rfl h⟩
  · refine ⟨Nat.le_trans h1 h2, fun _ => ⟨g, 0, rfl, hF, fun i x hi => ?_⟩⟩
    obtain ⟨r, m, y, q, a1, a2, a3, a4, a5⟩ := hp i x hi
    refine ⟨⟨x.kind, x.name, r, m, x.out, x.by_, x.around, y, q⟩, ⟨rfl, rfl, ReG.ofIn a2, MpG.ofIn a3, rfl, rfl, rfl, ReG.ofIn a4, ReG.ofIn a5⟩, ?_⟩
    rw [Nat.zero_add]
    exact a1
/-- texts of what is in an item -/
structure TxIt (x : It) : Prop where
  r : TxRe x.re
  l : TxRe x.left
  q : TxRe x.right
  m : TxMp x.map
  n : x.name.length ≤ 140737488351232
  b : x.by_.length ≤ 140737488351232
structure SeIt (x : It) : Prop where
  r : SeRe x.re
  l : SeRe x.left
  q : SeRe x.right
  m : SeMp x.map
theorem TxRe.ofOk : ∀ {n : Nat} {r : Re}, OkRe n r → TxRe r
  | 0, r, h => by simp [OkRe] at h
  | n + 1, .mk k x s ps mn mx, h => by
    have h' : Node k x s ps.length mn mx ∧ ∀ p ∈ ps, OkRe n p := by simpa [OkRe] using h
    have ih : ∀ p ∈ ps, TxRe p := fun p hp => TxRe.ofOk (h'.2 p hp)
    obtain ⟨hn, _⟩ := h'
    refine .mk _ _ _ _ _ _ ?_ ih
    generalize ps.length = m at hn
    cases hn <;> first | (simp; done) | omega
theorem TxRe.leaf {r : Re} (h : LeafR r) : TxRe r := by
  obtain ⟨k, x, s, hn, _⟩ := h
  refine .mk _ _ _ _ _ _ ?_ fun p hp => by cases hp
  cases hn <;> first | (simp; done) | omega
theorem TxRe.zero : TxRe Re.zero := .mk _ _ _ _ _ _ (by simp) fun p hp => by cases hp
theorem TxMp.zero : TxMp Mp.zero := .mk _ _ _ _ _ _ TxRe.zero (by simp) fun p hp => by cases hp
end Go.Proofs.YtfljcfdfgojdoaaGreatDoor.Sh

namespace Go.Proofs.YtfljcfdfgojdoaaGreatDoor.Sh
open Go.RowKit Go.Lib Go.Proofs.YtfljcfdfgojdoaaGreatDoor

theorem cBool : Tryz.prog.cellsOf 4 = 1 := by kernel_rfl
theorem cIt : Tryz.prog.cellsOf 65 = 46 := by kernel_rfl
theorem cut_at {α : Type} (cs : List α) (o k : Nat) : cs.drop o = (cs.drop o).take k ++ cs.drop (o + k) := by
  rw [← List.drop_drop, List.take_append_drop]
section
variable {H : Type} {enc : TypeId × Value → H} {w : World} {spare : Nat → Bool} {held : Bool} {fuel : Nat} {cs : List Value} {x : DataW H × List MemPlace}
theorem bool_of_trod (h : DataW.trod enc Tryz.prog w 0 spare held fuel 4 cs = some x) : ∃ b, cs = [.bool b] := by
  obtain ⟨z, e, _⟩ := DataW.trod_bool Tryz.underlying4 h
  exact ⟨z, e⟩
theorem it_of_trod (h : DataW.trod enc Tryz.prog w 0 spare held fuel 65 cs = some x) (hw : InReach 65 x.1) : ∃ (i : It) (y : Iw), cs = y.cs.toList ∧ ItG (Lt w) w i y ∧ TxIt i ∧ SeIt i := by
  obtain ⟨n, hf, hl, hfs⟩ := fld_reach Tryz.underlying65 h hw
  rw [cIt] at hl
  obtain ⟨y0, t0, w0⟩ := fldw hfs 0 rfl (t := 3) (off := 0) (k := 1) rfl rfl cInt
  obtain ⟨y1, t1, w1⟩ := fldw hfs 1 rfl (t := 9) (off := 1) (k := 1) rfl rfl cStr
  obtain ⟨y2, t2, w2⟩ := fldw hfs 2 rfl (t := 33) (off := 2) (k := 9) rfl rfl cRe
  obtain ⟨y3, t3, w3⟩ := fldw hfs 3 rfl (t := 36) (off := 11) (k := 14) rfl rfl cMp
  obtain ⟨y4, t4, w4⟩ := fldw hfs 4 rfl (t := 9) (off := 25) (k := 1) rfl rfl cStr
  obtain ⟨y5, t5, w5⟩ := fldw hfs 5 rfl (t := 9) (off := 26) (k := 1) rfl rfl cStr
  obtain ⟨y6, t6, w6⟩ := fldw hfs 6 rfl (t := 4) (off := 27) (k := 1) rfl rfl cBool
  obtain ⟨y7, t7, w7⟩ := fldw hfs 7 rfl (t := 33) (off := 28) (k := 9) rfl rfl cRe
  obtain ⟨y8, t8, w8⟩ := fldw hfs 8 rfl (t := 33) (off := 37) (k := 9) rfl rfl cRe
  obtain ⟨k, e0⟩ := int_of_trod t0
  obtain ⟨nm, e1, s1⟩ := str_of_trod t1 w1
  obtain ⟨r, ry, e2, g2, p2, v2⟩ := re_of_trod _ n (Nat.lt_succ_self n) _ _ t2 w2
  obtain ⟨m, my, e3, g3, p3, v3⟩ := mp_of_trod _ n (Nat.lt_succ_self n) _ _ t3 w3
  obtain ⟨o, e4, s4⟩ := str_of_trod t4 w4
  obtain ⟨b, e5, s5⟩ := str_of_trod t5 w5
  obtain ⟨ar, e6⟩ := bool_of_trod t6
  obtain ⟨l, ly, e7, g7, p7, v7⟩ := re_of_trod _ n (Nat.lt_succ_self n) _ _ t7 w7
  obtain ⟨q, qy, e8, g8, p8, v8⟩ := re_of_trod _ n (Nat.lt_succ_self n) _ _ t8 w8
  have e : cs = (Iw.cs ⟨k, nm, ry, my, o, b, ar, ly, qy⟩).toList := by
    have h46 : cs.drop 46 = [] := List.drop_eq_nil_of_le (by omega)
    have h0 : cs = cs.drop 0 := rfl
    rw [h0, cut_at cs 0 1, e0, cut_at cs 1 1, e1, cut_at cs 2 9, e2, cut_at cs 11 14, e3, cut_at cs 25 1, e4, cut_at cs 26 1, e5, cut_at cs 27 1, e6, cut_at cs 28 9, e7, cut_at cs 37 9, e8, h46]
    rfl
  exact ⟨⟨k, nm, r, m, o, b, ar, l, q⟩, ⟨k, nm, ry, my, o, b, ar, ly, qy⟩, e, ⟨rfl, rfl, g2, g3, rfl, rfl, rfl, g7, g8⟩, ⟨p2, p7, p8, p3, s1, s5⟩, ⟨v2, v7, v8, v3⟩⟩
theorem its_of_trod (h : DataW.trod enc Tryz.prog w 0 spare held fuel 22 cs = some x) (hw : InReach 22 x.1) : ∃ (l : List It) (ad : Option Addr) (cap : Nat), cs = [.slice ad l.length cap] ∧ ItsR (Lt w) w l ad ∧ (∀ i ∈ l, TxIt i) ∧ (∀ i ∈ l, SeIt i) := by
  obtain ⟨ad, len, cap, e, hlen, hel⟩ := elems_of_trod (k := 46) (by decide) Tryz.underlying22 cIt h hw
  by_cases hz : len = 0
  · subst hz
    exact ⟨[], ad, cap, e, ⟨Nat.zero_le _, fun h => absurd rfl h⟩, fun i hi => (by cases hi), fun i hi => (by cases hi)⟩
  · obtain ⟨g, off, rfl, hg, n', hn', hall⟩ := hel hz
    obtain ⟨l, hl1, hl2⟩ := exists_list (α := It) (P := fun i r => (∃ y : Iw, ItG (Lt w) w r y ∧ (∀ j v, y.cs.toList[j]? = some v → w.cell? ⟨g, off + i * 46 + j, none⟩ = some v)) ∧ TxIt r ∧ SeIt r) len (fun i hi => by
      obtain ⟨cs', y', a1, a2, a3, a4⟩ := hall i hi
      obtain ⟨r, z, rfl, b1, b2, b3⟩ := it_of_trod a3 a4
      exact ⟨r, ⟨z, b1, fun j v hv => a2 j v hv⟩, b2, b3⟩)
    subst hl1
    refine ⟨l, _, cap, e, ⟨hlen, fun _ => ⟨g, off, rfl, hg, fun i x hx => ?_⟩⟩, fun p hp => ?_, fun p hp => ?_⟩
    · obtain ⟨hi, rfl⟩ := List.getElem?_eq_some_iff.1 hx
      exact (hl2 i hi).1
    · obtain ⟨i, hi, rfl⟩ := List.getElem_of_mem hp
      exact (hl2 i hi).2.1
    · obtain ⟨i, hi, rfl⟩ := List.getElem_of_mem hp
      exact (hl2 i hi).2.2
set_option maxRecDepth 100000 in
theorem open_items {b0 : Nat} {v : Value} {d : DataW H} {ps : List MemPlace} (hval : Value.okWide Tryz.prog w .any b0 22 v) (hd : DataW.Trod enc Tryz.prog w 0 spare held 22 v d ps) (hw : InReach 22 d) :
    ∃ (l : List It) (ad : Option Addr) (cap : Nat), v = .slice ad l.length cap ∧ ItsR (Lt w) w l ad ∧ (∀ i ∈ l, TxIt i) ∧ (∀ i ∈ l, SeIt i) := by
  obtain ⟨fuel, hf⟩ := hd
  obtain ⟨l, ad, cap, e, h1, h2, h3⟩ := its_of_trod hf hw
  refine ⟨l, ad, cap, ?_, h1, h2, h3⟩
  cases v with
  | agg cs =>
    unfold Value.okWide at hval
    simp only [Tryz.underlying22] at hval
    cases hval
  | slice a b c =>
    rw [show (Value.slice a b c).cells.toList = [.slice a b c] from rfl] at e
    exact (List.cons.inj e).1
  | _ => exact absurd (List.cons.inj e).1 (by simp)
end
end Go.Proofs.YtfljcfdfgojdoaaGreatDoor.Sh

namespace Go.Proofs.YtfljcfdfgojdoaaGreatDoor.Sh.Rf
open Go.RowKit Go.Lib Go.Proofs.YtfljcfdfgojdoaaGreatDoor Go.Proofs.YtfljcfdfgojdoaaGreatDoor.Sh

/-- the elements from an address on -/
def RowAt {α : Type} (F : Nat → Prop) (w : World) (R : Value → α → Prop) (ad : Option Addr) (l : List α) : Prop :=
  l ≠ [] → ∃ g off, ad = some ⟨g, off, none⟩ ∧ F g ∧ ∀ i (h : i < l.length), ∃ c, w.cell? ⟨g, off + i, none⟩ = some c ∧ R c l[i]
def Row {α : Type} (F : Nat → Prop) (w : World) (R : Value → α → Prop) (v : Value) (l : List α) : Prop :=
  ∃ ad cap, v = .slice ad l.length cap ∧ l.length ≤ maxLen ∧ RowAt F w R ad l
theorem cell_heap {w w' : World} {g o : Nat} (h : w'.heap[g]? = w.heap[g]?) : w'.cell? ⟨g, o, none⟩ = w.cell? ⟨g, o, none⟩ := World.cell?_of_block h
theorem RowAt.frame {α : Type} {F F' : Nat → Prop} {w w' : World} {R R' : Value → α → Prop} {ad : Option Addr} {l : List α} (h : RowAt F w R ad l) (hF : ∀ g, F g → F' g) (hw : ∀ g, F g → g < w.heap.size → w'.heap[g]? = w.heap[g]?) (hR : ∀ c x, x ∈ l → R c x → R' c x) : RowAt F' w' R' ad l := by
  intro hl
  obtain ⟨g, off, h1, h2, h3⟩ := h hl
  refine ⟨g, off, h1, hF g h2, fun i hi => ?_⟩
  obtain ⟨c, hc, hr⟩ := h3 i hi
  exact ⟨c, (cell_heap (hw g h2 (World.block_lt_of_cell? w _ hc))).trans hc, hR c _ (List.getElem_mem hi) hr⟩
theorem Row.frame {α : Type} {F F' : Nat → Prop} {w w' : World} {R R' : Value → α → Prop} {v : Value} {l : List α} (h : Row F w R v l) (hF : ∀ g, F g → F' g) (hw : ∀ g, F g → g < w.heap.size → w'.heap[g]? = w.heap[g]?) (hR : ∀ c x, x ∈ l → R c x → R' c x) : Row F' w' R' v l := by
  obtain ⟨ad, cap, h1, h2, h3⟩ := h
  exact ⟨ad, cap, h1, h2, h3.frame hF hw hR⟩
theorem RowAt.at' {α : Type} {F : Nat → Prop} {w : World} {R : Value → α → Prop} {ad : Option Addr} {l : List α} (h : RowAt F w R ad l) {i : Nat} (hi : i < l.length) :
    ∃ g off, ad = some ⟨g, off, none⟩ ∧ F g ∧ ∃ c, w.cell? ⟨g, off + i, none⟩ = some c ∧ R c l[i] := by
  obtain ⟨g, off, h1, h2, h3⟩ := h (by intro e; subst e; simp at hi)
  exact ⟨g, off, h1, h2, h3 i hi⟩
abbrev BoolR (c : Value) (x : Bool) : Prop := c = .bool x
abbrev BoolsIn (F : Nat → Prop) (w : World) : Value → List Bool → Prop := Row F w BoolR
theorem err_eq {a b : Int} (h : a = b) : Ending.returned (.int .i64 a) = .returned (.int .i64 b) := by rw [h]
theorem byte_of (n : Nat) : (UInt8.ofNat n).toNat = n % 256 := by simp
theorem own_later {w w1 : World} {base e size n : Nat} {v : Value} {xs : List Value} (h : w.ownsRow base e size v n xs) (hb : Below w.heap.size w w1) : w1.ownsRow base e size v n xs :=
  ownsRow_same h fun k _ hk _ => hb.block k (lt_of_heap hk)
theorem own_tag {w : World} {base e size n : Nat} {v : Value} {xs : List Value} (h : w.ownsRow base e size v n xs) {g : Nat} (hg : v.ownBlock = some g) : ∃ cur, w.heap[g]? = some (.cells cur e (0, 0)) := by
  rcases h.2 with ⟨rfl, _⟩ | ⟨g', cap, cur, rfl, _, hh, _⟩
  · simp [Value.ownBlock] at hg
  · simp [Value.ownBlock] at hg; subst hg; exact ⟨cur, hh⟩
theorem own_store {w : World} {base e n g cap i : Nat} {xs : List Value} (u : Value) (h : w.ownsRow base e 1 (.slice (some ⟨g, 0, none⟩) n cap) n xs) : (w.setCell ⟨g, i, none⟩ u).ownsRow base e 1 (.slice (some ⟨g, 0, none⟩) n cap) n (xs.set i u) := by
  refine ⟨by simpa using h.1, ?_⟩
  rcases h.2 with ⟨h', _⟩ | ⟨g', cap', cur, h', hb, hg, hn, hc, hs, ht⟩
  · cases h'
  · cases h'
    refine .inr ⟨g, cap, cur.setIfInBounds i u, rfl, hb, heap_setCell_same _ _ _ _ _ _ hg, hn, hc, by simpa using hs, ?_⟩
    rw [Array.toList_setIfInBounds, List.take_set, ht]
theorem own_free {w : World} {base e n g cap i : Nat} {xs : List Value} (h : w.ownsRow base e 1 (.slice (some ⟨g, 0, none⟩) n cap) n xs) : w.frozen? ⟨g, i, none⟩ = false := by
  obtain ⟨cur, hc⟩ := own_tag h (g := g) rfl
  exact free_box hc
theorem made_rep (v : Value) (n : Nat) (h : v.cells = #[v] := by rfl) : (madeCells v.cells (n * 1)).toList = List.replicate n v := by
  rw [h, Nat.mul_one, toList_madeCells_one]
end Go.Proofs.YtfljcfdfgojdoaaGreatDoor.Sh.Rf
