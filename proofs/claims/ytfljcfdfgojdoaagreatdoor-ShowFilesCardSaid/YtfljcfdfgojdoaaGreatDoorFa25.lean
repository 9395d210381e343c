/-
  Few, FewMap: where they return true there are few parts.
  An expression, a map that came in, read off the row's datum.
  An item in memory, and what tells whether it is right; plain.
-/
import Derived.Test.YtfljcfdfgojdoaaGreatDoorFa24
import Derived.Deep.DeepCutAuto
import Derived.Deep.Slices
import Derived.OpenShut
import Derived.Carry
import Derived.ProofKit
import Derived.SizedLaws
import Derived.Test.YtfljcfdfgojdoaaGreatDoorFa08
namespace Go.Proofs.YtfljcfdfgojdoaaGreatDoor.Sh
open Go.RowKit Go.Lib Go.Proofs.YtfljcfdfgojdoaaGreatDoor

/-- what size hands back: a number; where it is small, it bounds how many there are -/
def SzPost (d c : Nat) (w : World) (e : Ending) (w' : World) : Prop := ∃ n : Nat, e = .returned (.int .i64 n) ∧ n ≤ 1000 * (213 - d) ∧ (n < 1000 → c ≤ n) ∧ Below w.heap.size w w'
theorem nodesL_snoc : ∀ (l : List Re) (p : Re), nodesL (l ++ [p]) = nodesL l + nodes p
  | [], p => by rw [List.nil_append, nodesL, nodesL, nodesL]; omega
  | q :: l, p => by rw [List.cons_append, nodesL, nodesL, nodesL_snoc l p]; omega
theorem mnodesL_snoc : ∀ (l : List Mp) (p : Mp), mnodesL (l ++ [p]) = mnodesL l + mnodes p
  | [], p => by rw [List.nil_append, mnodesL, mnodesL, mnodesL]; omega
  | q :: l, p => by rw [List.cons_append, mnodesL, mnodesL, mnodesL_snoc l p]; omega
set_option maxRecDepth 100000 in
set_option maxHeartbeats 2000000 in
theorem size_few : ∀ (N : Nat) (r : Re), SizeOf.sizeOf r < N → ∀ (d : Nat), d ≤ 211 → ∀ (F : Nat → Prop) (cs : Array Value) (w : World), (∀ g, F g → g < w.heap.size) → ReG F w r cs →
    Calls Tryz.prog 48 #[.agg cs, .int .i64 d] w (SzPost d (nodes r) w) := by
  intro N
  induction N with
  | zero => intro r h; omega
  | succ N ih =>
    intro r hN d hd F cs w hFw h
    obtain ⟨k, x, s, ps, mn, mx⟩ := r
    obtain ⟨ad, cap, rfl, hlen, ho⟩ := h.open
    have hsub : ∀ p ∈ ps, SizeOf.sizeOf p < N := fun p hp => by
      have h1 := List.sizeOf_lt_of_mem hp
      simp only [Re.mk.sizeOf_spec] at hN
      omega
    have IH := hid ih
    have HSUB := hid hsub
    have HFW := hid hFw
    have HO := hid ho
    have HND := hid (show nodes (.mk k x s ps mn mx) = 1 + nodesL ps by rw [nodes])
    unfold maxLen at hlen
    clear h ih hsub hN hFw ho
    have hb0 : Below w.heap.size w (w.alloc (.cells (reC k x s (.slice ad ps.length cap) mn mx) 33)) := (Below.refl _ w).alloc (Nat.le_refl _) _
    have hblk : (w.alloc (.cells (reC k x s (.slice ad ps.length cap) mn mx) 33)).heap[w.heap.size]? = some (.cells (reC k x s (.slice ad ps.length cap) mn mx) 33 (0, 0)) := heap_alloc_new _ _
    have hsz0 : (w.alloc (.cells (reC k x s (.slice ad ps.length cap) mn mx) 33)).heap.size = w.heap.size + 1 := by simp
    have HBK := hid hblk
    have HB0 := hid hb0
    have HSZ0 := hid hsz0
    clear hblk hb0 hsz0
    by_cases hdd : d = 211
    · subst hdd
      go_enter Tryz.func48, Tryz.ntmps48
      go_wp2
      go_ret
      exact ⟨1000, rfl, by omega, fun h => by omega, HB0.out⟩
    · have hd2 : ¬ ((210 : Int) < (d : Int)) := by omega
      go_enter Tryz.func48, Tryz.ntmps48
      go_wp2
      go_loopw [5, 6] (fun vn vi wr => ∃ i n : Nat, i ≤ ps.length ∧ vi = .int .i64 i ∧ vn = .int .i64 n ∧ n ≤ 1000 * (213 - d) ∧ 1 ≤ n ∧ Hid (n < 1000 → 1 + nodesL (ps.take i) ≤ n) ∧ Below (w.heap.size + 1) (w.alloc (.cells (reC k x s (.slice ad ps.length cap) mn mx) 33)) wr) (fun _ vi _ => ps.length - (RowKit.intOf vi).toNat)
      case atStart => exact ⟨0, 1, Nat.zero_le _, rfl, rfl, by omega, Nat.le_refl _, by rw [List.take_zero, nodesL]; exact fun _ => Nat.le_refl _, Below.refl _ _⟩
      case round =>
        obtain ⟨i, n, hi, rfl, rfl, hn, hn1, HN, hb⟩ := hrel
        have hwr : Below w.heap.size w wr := HB0.out.trans (hb.mono (by omega))
        have hsz : w.heap.size + 1 ≤ wr.heap.size := by have := hb.size; have := HSZ0.out; omega
        have hbx := (hb.block w.heap.size (by omega)).trans HBK.out
        have c6 := cell_blk (i := 6) hbx rfl
        clear hbx
        have HRET := hid (show n < 1000 → i = ps.length → SzPost d (nodes (.mk k x s ps mn mx)) w (.returned (.int .i64 n)) wr from fun _ he => ⟨n, rfl, hn, fun hl => by
          have := HN.out hl
          rw [he, List.take_length] at this
          rw [HND.out]; exact this, hwr⟩)
        have HRET2 := hid (show ¬ n < 1000 → SzPost d (nodes (.mk k x s ps mn mx)) w (.returned (.int .i64 n)) wr from fun hl => ⟨n, rfl, hn, fun h => absurd h hl, hwr⟩)
        by_cases hlt : i < ps.length
        · have hgi : (i : Int) < (ps.length : Int) := by omega
          by_cases hn0 : n < 1000
          · have hni : (n : Int) < 1000 := by omega
            obtain ⟨g, off, rfl, hgF, hparts⟩ := HO.out (by rintro rfl; simp at hlt)
            obtain ⟨k1, x1, s1, ad1, n1, cap1, mn1, mx1, hr1, hc⟩ := hparts.at (List.getElem?_eq_getElem hlt)
            obtain ⟨a0, a1, a2, a3, a4, a5, a6, a7, a8⟩ := elem9_of (W := wr) (g := g) (o := off + i * 9) fun j v hv => (hwr.cell (p := ⟨g, off + i * 9 + j, none⟩) (HFW.out g hgF)).trans (hc j v hv)
            have hcall := IH.out _ (HSUB.out _ (List.getElem_mem hlt)) (d + 1) (by omega) F _ wr (fun g hg => by have := HFW.out g hg; omega) (hr1.below HFW.out hwr)
            have hcd : (((d + 1 : Nat)) : Int) = (d : Int) + 1 := by omega
            rw [hcd] at hcall
            have HTS := hid (take_snoc hlt)
            have HNS := hid (nodesL_snoc (ps.take i) ps[i])
            clear hparts hc hr1 hcd
            go_wp2_with (go_at_call 48; refine hcall.mono ?_; clear hcall; rintro e w3 ⟨n3, rfl, hn3, hn3', hb3⟩; have HN3 := hid hn3'; clear hn3')
            go_roundw
            case rel => exact ⟨i + 1, n + n3, by omega, by go_num, by go_num, by omega, by omega, hid (fun hl => by
              have h1 := HN.out hn0
              have h2 := HN3.out (by omega)
              rw [HTS.out, HNS.out]; omega), hb.trans (hb3.mono (by omega))⟩
            case measure => simp [RowKit.intOf]; omega
          · have hni : ¬ (n : Int) < 1000 := by omega
            go_wp2
            go_ret
            exact HRET2.out hn0
        · obtain rfl : i = ps.length := by omega
          go_wp2
          go_ret
          by_cases hn0 : n < 1000
          · exact HRET.out hn0 (by first | rfl | trivial)
          · exact HRET2.out hn0
/-- what Few hands back -/
def FewP (P : Prop) (w : World) (e : Ending) (w' : World) : Prop := ∃ b : Bool, e = .returned (.bool b) ∧ (b = true → P) ∧ Below w.heap.size w w'
theorem FewP.mk {P : Prop} {w w' : World} (b : Bool) (h : b = true → P) (hb : Below w.heap.size w w') : FewP P w (.returned (.bool b)) w' := ⟨b, rfl, h, hb⟩
set_option maxRecDepth 100000 in
set_option maxHeartbeats 1000000 in
theorem few_re {F : Nat → Prop} {r : Re} {cs : Array Value} {w : World} (hFw : ∀ g, F g → g < w.heap.size) (hG : ReG F w r cs) : Calls Tryz.prog 15 #[.agg cs] w (FewP (nodes r < 1000) w) := by
  obtain ⟨k, x, s, ad, n, cap, mn, mx, rfl⟩ := hG.cells
  have hb0 : Below w.heap.size w (w.alloc (.cells (reC k x s (.slice ad n cap) mn mx) 33)) := (Below.refl _ w).alloc (Nat.le_refl _) _
  have hsz : (w.alloc (.cells (reC k x s (.slice ad n cap) mn mx) 33)).heap.size = w.heap.size + 1 := by simp
  have hc := size_few _ r (Nat.lt_succ_self _) 0 (by decide) F _ (w.alloc (.cells (reC k x s (.slice ad n cap) mn mx) 33)) (fun g hg => by have := hFw g hg; omega) (hG.below hFw hb0)
  have HB := hid hb0
  clear hG hFw hb0
  go_enter Tryz.func15, Tryz.ntmps15
  go_wp2_with (go_at_call 48; refine hc.mono ?_; clear hc; rintro e w2 ⟨n2, rfl, _, hn2, hb2⟩; have HN2 := hid hn2; clear hn2)
  go_ret
  exact FewP.mk _ (fun h => by
    have h1 : (n2 : Int) < 1000 := by simpa using h
    have := HN2.out (by omega)
    omega) (HB.out.trans (hb2.mono (by omega)))
end Go.Proofs.YtfljcfdfgojdoaaGreatDoor.Sh

namespace Go.Proofs.YtfljcfdfgojdoaaGreatDoor.Sh
open Go.RowKit Go.Lib Go.Proofs.YtfljcfdfgojdoaaGreatDoor

theorem mem_weightsAll {H : Type} {P : Program} {e : TypeId} : ∀ {l : List (DataW H)} {d : DataW H}, d ∈ l → ∀ m ∈ d.weights P e, m ∈ DataW.weightsAll P e l
  | [], _, h, _, _ => by cases h
  | x :: l, d, h, m, hm => by
    simp only [DataW.weightsAll, List.mem_append]
    rcases List.mem_cons.1 h with rfl | h
    · exact .inl hm
    · exact .inr (mem_weightsAll h m hm)
section
variable {H : Type} {enc : TypeId × Value → H} {w : World} {spare : Nat → Bool} {held : Bool} {fuel : Nat} {cs : List Value} {x : DataW H × List MemPlace}
abbrev Lt (w : World) (g : Nat) : Prop := g < w.heap.size
abbrev InReach (T : TypeId) (d : DataW H) : Prop := ∀ m ∈ d.weights Tryz.prog T, m ≤ reachBytes
theorem fld_reach {t : TypeId} {fs : Array Field} (ht : Tryz.prog.underlying t = some (.struct fs)) (h : DataW.trod enc Tryz.prog w 0 spare held fuel t cs = some x) (hw : InReach t x.1) :
    ∃ n, fuel = n + 1 ∧ cs.length = Tryz.prog.cellsOf t ∧ ∀ (i : Nat) (f : Field), fs[i]? = some f → ∃ y, DataW.trod enc Tryz.prog w 0 spare held n f.type ((cs.drop f.offset).take (Tryz.prog.cellsOf f.type)) = some y ∧ InReach f.type y.1 := by
  obtain ⟨xs, n, hf, rfl, h1, h2, h3⟩ := DataW.trod_struct ht h
  refine ⟨n, hf, h1, fun i f hf => ?_⟩
  have hi := (Array.getElem?_eq_some_iff.1 hf).1
  refine ⟨xs[i], by rw [h3 i f hf, List.getElem?_eq_getElem], fun m hm => hw m ?_⟩
  simp only [DataW.weights, ht]
  refine DataW.weights_mem_each (j := i) (t := f.type) (d := xs[i].1) ?_ ?_ m hm
  · rw [List.getElem?_map, Array.getElem?_toList, hf]; rfl
  · rw [List.getElem?_map, List.getElem?_eq_getElem (by omega)]; rfl
theorem fldw {n : Nat} {fs : Array Field} (hf : ∀ (i : Nat) (f : Field), fs[i]? = some f → ∃ y, DataW.trod enc Tryz.prog w 0 spare held n f.type ((cs.drop f.offset).take (Tryz.prog.cellsOf f.type)) = some y ∧ InReach f.type y.1) (i : Nat) {f : Field} (h : fs[i]? = some f) {t off k : Nat} (ht : f.type = t) (ho : f.offset = off) (hk : Tryz.prog.cellsOf t = k) :
    ∃ y, DataW.trod enc Tryz.prog w 0 spare held n t ((cs.drop off).take k) = some y ∧ InReach t y.1 := by
  subst ht
  subst ho
  subst hk
  exact hf i f h
theorem elems_of_trod {T E : TypeId} {k : Nat} (hk : 0 < k) (ht : Tryz.prog.underlying T = some (.slice E)) (hc : Tryz.prog.cellsOf E = k) (h : DataW.trod enc Tryz.prog w 0 spare held fuel T cs = some x) (hw : InReach T x.1) :
    ∃ ad len cap, cs = [.slice ad len cap] ∧ len ≤ maxLen ∧ (len ≠ 0 → ∃ g off, ad = some ⟨g, off, none⟩ ∧ Lt w g ∧ ∃ n, fuel = n + 1 ∧ ∀ i, i < len → ∃ cs' y, cs'.length = k ∧ (∀ j c, cs'[j]? = some c → w.cell? ⟨g, off + i * k + j, none⟩ = some c) ∧ DataW.trod enc Tryz.prog w 0 spare held n E cs' = some y ∧ InReach E y.1) := by
  rcases DataW.trod_slice ht h with ⟨rfl, _⟩ | ⟨a, len, cap, elems, rest, n, hf, rfl, rfl, _, hl, hm, hlen, hel, _⟩
  · exact ⟨none, 0, 0, rfl, Nat.zero_le _, fun h => absurd rfl h⟩
  · refine ⟨some a, len, cap, rfl, Nat.le_trans hl hm, fun hne => ?_⟩
    rw [hc] at hel
    have hx : ∀ i, i < len → ∃ cs' y, w.cells? 0 (a.add (i * k)) k = some cs' ∧ DataW.trod enc Tryz.prog w 0 spare held n E cs' = some y ∧ y ∈ elems := fun i hi => by
      have h1 := hel i hi
      have h2 : elems[i]? = some (elems[i]'(by omega)) := List.getElem?_eq_getElem _
      rw [h2] at h1
      obtain ⟨cs', e1, e2⟩ := Option.bind_eq_some_iff.1 h1
      exact ⟨cs', _, e1, e2, List.getElem_mem _⟩
    obtain ⟨g, off, spot⟩ := a
    have hcell0 : ∃ c, w.cell? ⟨g, off, spot⟩ = some c := by
      obtain ⟨cs', _, e1, _⟩ := hx 0 (by omega)
      obtain ⟨_, e3, e4⟩ := World.cells?_some e1
      have := e4 0 hk
      rw [Nat.zero_mul] at this
      exact ⟨cs'[0], by simpa [Addr.add, List.getElem?_eq_getElem (show 0 < cs'.length by omega)] using this⟩
    obtain ⟨c0, hc0⟩ := hcell0
    obtain rfl : spot = none := World.cell?_spot hc0
    refine ⟨g, off, rfl, World.block_lt_of_cell? w _ hc0, n, hf, fun i hi => ?_⟩
    obtain ⟨cs', y, e1, e2, e5⟩ := hx i hi
    obtain ⟨_, e3, e4⟩ := World.cells?_some e1
    refine ⟨cs', y, e3, fun j c hj => ?_, e2, fun m hm => hw m ?_⟩
    · have hjk : j < k := by have := (List.getElem?_eq_some_iff.1 hj).1; omega
      have := e4 j hjk
      rw [Addr.add_lit, Addr.add_lit, hj] at this
      exact this
    · simp only [DataW.weights, ht]
      exact List.mem_cons_of_mem _ (List.mem_append_left _ (mem_weightsAll (List.mem_map_of_mem e5) m hm))
theorem str_of_trod (h : DataW.trod enc Tryz.prog w 0 spare held fuel 9 cs = some x) (hw : InReach 9 x.1) : ∃ l : List B, cs = [.string ⟨l.toArray⟩] ∧ l.length ≤ 140737488351232 := by
  obtain ⟨s, rfl, rfl, hs⟩ := DataW.trod_string Tryz.underlying9 h
  refine ⟨s.data.toList, rfl, ?_⟩
  have := hw s.data.toList.length (by simp [DataW.weights])
  unfold reachBytes at this
  omega
theorem int_of_trod (h : DataW.trod enc Tryz.prog w 0 spare held fuel 3 cs = some x) : ∃ n, cs = [.int .i64 n] := by
  obtain ⟨z, e, _⟩ := DataW.trod_int Tryz.underlying3 h
  exact ⟨z, e⟩
theorem word_of_trod (h : DataW.trod enc Tryz.prog w 0 spare held fuel 28 cs = some x) : ∃ n, cs = [.int .u64 n] ∧ wOk n := by
  obtain ⟨z, e, _, hz⟩ := DataW.trod_int Tryz.underlying28 h
  refine ⟨z, e, ?_⟩
  simp [Lit.wf] at hz
  have h1 : IntKind.u64.min = 0 := rfl
  have h2 : IntKind.u64.max = 18446744073709551615 := rfl
  rw [h1, h2] at hz
  exact ⟨hz.1, by omega⟩
theorem exists_list {α : Type} {P : Nat → α → Prop} : ∀ (n : Nat), (∀ i, i < n → ∃ a, P i a) → ∃ l : List α, l.length = n ∧ ∀ i (h : i < l.length), P i l[i]
  | 0, _ => ⟨[], rfl, fun i h => by simp at h⟩
  | n + 1, h => by
    obtain ⟨l, h1, h2⟩ := exists_list n (fun i hi => h i (by omega))
    obtain ⟨a, ha⟩ := h n (by omega)
    refine ⟨l ++ [a], by simp [h1], fun i hi => ?_⟩
    by_cases hl : i < l.length
    · rw [List.getElem_append_left hl]; exact h2 i hl
    · have : i = n := by simp at hi; omega
      subst this
      rw [List.getElem_append_right (by omega)]
      simpa using ha
theorem len4 {cs : List Value} (h : cs.length = 4) : ∃ c0 c1 c2 c3, cs = [c0, c1, c2, c3] := by
  match cs, h with
  | [c0, c1, c2, c3], _ => exact ⟨c0, c1, c2, c3, rfl⟩
theorem len9 {cs : List Value} (h : cs.length = 9) : ∃ c0 c1 c2 c3 c4 c5 c6 c7 c8, cs = [c0, c1, c2, c3, c4, c5, c6, c7, c8] := by
  match cs, h with
  | [c0, c1, c2, c3, c4, c5, c6, c7, c8], _ => exact ⟨c0, c1, c2, c3, c4, c5, c6, c7, c8, rfl⟩
theorem len14 {cs : List Value} (h : cs.length = 14) : ∃ c0 c1 c2 c3 c4 c5 c6 c7 c8 c9 c10 c11 c12 c13, cs = [c0, c1, c2, c3, c4, c5, c6, c7, c8, c9, c10, c11, c12, c13] := by
  match cs, h with
  | [c0, c1, c2, c3, c4, c5, c6, c7, c8, c9, c10, c11, c12, c13], _ => exact ⟨c0, c1, c2, c3, c4, c5, c6, c7, c8, c9, c10, c11, c12, c13, rfl⟩
theorem cInt : Tryz.prog.cellsOf 3 = 1 := by kernel_rfl
theorem cWord : Tryz.prog.cellsOf 28 = 1 := by kernel_rfl
theorem cStr : Tryz.prog.cellsOf 9 = 1 := by kernel_rfl
theorem cSet : Tryz.prog.cellsOf 30 = 4 := by kernel_rfl
theorem cRe : Tryz.prog.cellsOf 33 = 9 := by kernel_rfl
theorem cRes : Tryz.prog.cellsOf 31 = 1 := by kernel_rfl
theorem cMp : Tryz.prog.cellsOf 36 = 14 := by kernel_rfl
theorem cMps : Tryz.prog.cellsOf 34 = 1 := by kernel_rfl
theorem set_of_trod (h : DataW.trod enc Tryz.prog w 0 spare held fuel 30 cs = some x) : ∃ s : Se, cs = [.int .u64 s.a, .int .u64 s.b, .int .u64 s.c, .int .u64 s.d] ∧ SeOk s := by
  obtain ⟨xs, m, _, _, hl, hxl, hx⟩ := DataW.trod_array Tryz.underlying30 h
  rw [cSet] at hl
  rw [cWord] at hx
  obtain ⟨c0, c1, c2, c3, rfl⟩ := len4 hl
  have key : ∀ i, i < 4 → ∃ z, ([c0, c1, c2, c3].drop (i * 1)).take 1 = [.int .u64 z] ∧ wOk z := fun i hi => by
    have h1 := hx i hi
    rw [List.getElem?_eq_getElem (by omega)] at h1
    exact word_of_trod h1
  obtain ⟨a, e0, h0⟩ := key 0 (by decide)
  obtain ⟨b, e1, h1⟩ := key 1 (by decide)
  obtain ⟨c, e2, h2⟩ := key 2 (by decide)
  obtain ⟨d, e3, h3⟩ := key 3 (by decide)
  simp at e0 e1 e2 e3
  subst e0 e1 e2 e3
  exact ⟨⟨a, b, c, d⟩, rfl, h0, h1, h2, h3⟩
theorem partsG_mk {F : Nat → Prop} {g : Nat} : ∀ {l : List Re} {off : Nat}, (∀ i (h : i < l.length), ∃ y : Rw, (∀ j v, y.cs[j]? = some v → w.cell? ⟨g, off + i * 9 + j, none⟩ = some v) ∧ ReG F w l[i] y.cs) → PartsG F w g off l
  | [], off, _ => by unfold PartsG; trivial
  | r :: l, off, h => by
    unfold PartsG
    obtain ⟨y, h1, h2⟩ := h 0 (by simp)
    refine ⟨y.cs, fun j v hv => by simpa using h1 j v hv, h2, partsG_mk fun i hi => ?_⟩
    obtain ⟨z, h3, h4⟩ := h (i + 1) (by simpa using hi)
    exact ⟨z, fun j v hv => by have := h3 j v hv; rw [show off + (i + 1) * 9 + j = off + 9 + i * 9 + j by omega] at this; exact this, h4⟩
theorem mpsG_mk {F : Nat → Prop} {g : Nat} : ∀ {l : List Mp} {off : Nat}, (∀ i (h : i < l.length), ∃ y : Mw, (∀ j v, y.cs[j]? = some v → w.cell? ⟨g, off + i * 14 + j, none⟩ = some v) ∧ MpG F w l[i] y) → MpsG F w g off l
  | [], off, _ => by unfold MpsG; trivial
  | r :: l, off, h => by
    unfold MpsG
    obtain ⟨y, h1, h2⟩ := h 0 (by simp)
    refine ⟨y, fun j v hv => by simpa using h1 j v hv, h2, mpsG_mk fun i hi => ?_⟩
    obtain ⟨z, h3, h4⟩ := h (i + 1) (by simpa using hi)
    exact ⟨z, fun j v hv => by have := h3 j v hv; rw [show off + (i + 1) * 14 + j = off + 14 + i * 14 + j by omega] at this; exact this, h4⟩
theorem re_of_trod : ∀ (N fuel : Nat), fuel < N → ∀ (cs : List Value) (x : DataW H × List MemPlace), DataW.trod enc Tryz.prog w 0 spare held fuel 33 cs = some x → InReach 33 x.1 → ∃ (r : Re) (y : Rw), cs = y.cs.toList ∧ ReG (Lt w) w r y.cs ∧ TxRe r ∧ SeRe r
  | 0, fuel, hN, _, _, _, _ => by omega
  | N + 1, fuel, hN, cs, x, h, hw => by
    obtain ⟨n, hf, hl, hfs⟩ := fld_reach Tryz.underlying33 h hw
    rw [cRe] at hl
    obtain ⟨c0, c1, c2, c3, c4, c5, c6, c7, c8, rfl⟩ := len9 hl
    obtain ⟨y0, t0, _⟩ := fldw hfs 0 rfl (t := 3) (off := 0) (k := 1) rfl rfl cInt
    obtain ⟨y1, t1, w1⟩ := fldw hfs 1 rfl (t := 9) (off := 1) (k := 1) rfl rfl cStr
    obtain ⟨y2, t2, _⟩ := fldw hfs 2 rfl (t := 30) (off := 2) (k := 4) rfl rfl cSet
    obtain ⟨y3, t3, w3⟩ := fldw hfs 3 rfl (t := 31) (off := 6) (k := 1) rfl rfl cRes
    obtain ⟨y4, t4, _⟩ := fldw hfs 4 rfl (t := 3) (off := 7) (k := 1) rfl rfl cInt
    obtain ⟨y5, t5, _⟩ := fldw hfs 5 rfl (t := 3) (off := 8) (k := 1) rfl rfl cInt
    obtain ⟨k, e0⟩ := int_of_trod t0
    obtain ⟨tx, e1, hx1⟩ := str_of_trod t1 w1
    obtain ⟨s, e2, hs⟩ := set_of_trod t2
    obtain ⟨ad, len, cap, e3, hlen, hel⟩ := elems_of_trod (k := 9) (by decide) Tryz.underlying31 cRe t3 w3
    obtain ⟨mn, e4⟩ := int_of_trod t4
    obtain ⟨mx, e5⟩ := int_of_trod t5
    simp at e0 e1 e2 e3 e4 e5
    obtain ⟨e20, e21, e22, e23⟩ := e2
    subst e0 e1 e20 e21 e22 e23 e3 e4 e5
    by_cases hz : len = 0
    · subst hz
      refine ⟨.mk k tx s [] mn mx, ⟨k, tx, s, ad, 0, cap, mn, mx⟩, rfl, ?_, .mk _ _ _ _ _ _ hx1 (fun p hp => by simp at hp), .mk _ _ _ _ _ _ hs (fun p hp => by simp at hp)⟩
      unfold ReG
      exact ⟨ad, cap, rfl, Nat.zero_le _, fun h => absurd rfl h⟩
    · obtain ⟨g, off, rfl, hg, n', hn', hall⟩ := hel hz
      obtain ⟨l, hl1, hl2⟩ := exists_list (α := Re) (P := fun i r => (∃ y : Rw, (∀ j v, y.cs[j]? = some v → w.cell? ⟨g, off + i * 9 + j, none⟩ = some v) ∧ ReG (Lt w) w r y.cs) ∧ TxRe r ∧ SeRe r) len (fun i hi => by
        obtain ⟨cs', y', a1, a2, a3, a4⟩ := hall i hi
        obtain ⟨r, z, rfl, b1, b2, b3⟩ := re_of_trod N n' (by omega) cs' y' a3 a4
        exact ⟨r, ⟨z, fun j v hv => a2 j v (by simpa using hv), b1⟩, b2, b3⟩)
      subst hl1
      refine ⟨.mk k tx s l mn mx, ⟨k, tx, s, some ⟨g, off, none⟩, l.length, cap, mn, mx⟩, rfl, ?_, .mk _ _ _ _ _ _ hx1 (fun p hp => ?_), .mk _ _ _ _ _ _ hs (fun p hp => ?_)⟩
      · unfold ReG
        exact ⟨_, cap, rfl, hlen, fun _ => ⟨g, off, rfl, hg, partsG_mk fun i hi => (hl2 i hi).1⟩⟩
      · obtain ⟨i, hi, rfl⟩ := List.getElem_of_mem hp
        exact (hl2 i hi).2.1
      · obtain ⟨i, hi, rfl⟩ := List.getElem_of_mem hp
        exact (hl2 i hi).2.2
theorem mp_of_trod : ∀ (N fuel : Nat), fuel < N → ∀ (cs : List Value) (x : DataW H × List MemPlace), DataW.trod enc Tryz.prog w 0 spare held fuel 36 cs = some x → InReach 36 x.1 → ∃ (r : Mp) (y : Mw), cs = y.cs.toList ∧ MpG (Lt w) w r y ∧ TxMp r ∧ SeMp r
  | 0, fuel, hN, _, _, _, _ => by omega
  | N + 1, fuel, hN, cs, x, h, hw => by
    obtain ⟨n, hf, hl, hfs⟩ := fld_reach Tryz.underlying36 h hw
    rw [cMp] at hl
    obtain ⟨c0, c1, c2, c3, c4, c5, c6, c7, c8, c9, c10, c11, c12, c13, rfl⟩ := len14 hl
    obtain ⟨y0, t0, _⟩ := fldw hfs 0 rfl (t := 3) (off := 0) (k := 1) rfl rfl cInt
    obtain ⟨y1, t1, w1⟩ := fldw hfs 1 rfl (t := 33) (off := 1) (k := 9) rfl rfl cRe
    obtain ⟨y2, t2, w2⟩ := fldw hfs 2 rfl (t := 9) (off := 10) (k := 1) rfl rfl cStr
    obtain ⟨y3, t3, w3⟩ := fldw hfs 3 rfl (t := 34) (off := 11) (k := 1) rfl rfl cMps
    obtain ⟨y4, t4, _⟩ := fldw hfs 4 rfl (t := 3) (off := 12) (k := 1) rfl rfl cInt
    obtain ⟨y5, t5, _⟩ := fldw hfs 5 rfl (t := 3) (off := 13) (k := 1) rfl rfl cInt
    obtain ⟨k, e0⟩ := int_of_trod t0
    obtain ⟨re, ry, e1, hre, htr, hsr⟩ := re_of_trod _ n (Nat.lt_succ_self n) _ _ t1 w1
    obtain ⟨tx, e2, hx1⟩ := str_of_trod t2 w2
    obtain ⟨ad, len, cap, e3, hlen, hel⟩ := elems_of_trod (k := 14) (by decide) Tryz.underlying34 cMp t3 w3
    obtain ⟨mn, e4⟩ := int_of_trod t4
    obtain ⟨mx, e5⟩ := int_of_trod t5
    simp at e0 e1 e2 e3 e4 e5
    obtain ⟨f0, f1, f2, f3, f4, f5, f6, f7, f8⟩ := e1
    subst e0 f0 f1 f2 f3 f4 f5 f6 f7 f8 e2 e3 e4 e5
    by_cases hz : len = 0
    · subst hz
      refine ⟨.mk k re tx [] mn mx, ⟨k, ry, tx, ad, 0, cap, mn, mx⟩, rfl, ?_, .mk _ _ _ _ _ _ htr hx1 (fun p hp => by simp at hp), .mk _ _ _ _ _ _ hsr (fun p hp => by simp at hp)⟩
      unfold MpG
      exact ⟨rfl, rfl, rfl, rfl, rfl, hre, Nat.zero_le _, fun h => absurd rfl h⟩
    · obtain ⟨g, off, rfl, hg, n', hn', hall⟩ := hel hz
      obtain ⟨l, hl1, hl2⟩ := exists_list (α := Mp) (P := fun i r => (∃ y : Mw, (∀ j v, y.cs[j]? = some v → w.cell? ⟨g, off + i * 14 + j, none⟩ = some v) ∧ MpG (Lt w) w r y) ∧ TxMp r ∧ SeMp r) len (fun i hi => by
        obtain ⟨cs', y', a1, a2, a3, a4⟩ := hall i hi
        obtain ⟨r, z, rfl, b1, b2, b3⟩ := mp_of_trod N n' (by omega) cs' y' a3 a4
        exact ⟨r, ⟨z, fun j v hv => a2 j v (by simpa using hv), b1⟩, b2, b3⟩)
      subst hl1
      refine ⟨.mk k re tx l mn mx, ⟨k, ry, tx, some ⟨g, off, none⟩, l.length, cap, mn, mx⟩, rfl, ?_, .mk _ _ _ _ _ _ htr hx1 (fun p hp => ?_), .mk _ _ _ _ _ _ hsr (fun p hp => ?_)⟩
      · unfold MpG
        exact ⟨rfl, rfl, rfl, rfl, rfl, hre, hlen, fun _ => ⟨g, off, rfl, hg, mpsG_mk fun i hi => (hl2 i hi).1⟩⟩
      · obtain ⟨i, hi, rfl⟩ := List.getElem_of_mem hp
        exact (hl2 i hi).2.1
      · obtain ⟨i, hi, rfl⟩ := List.getElem_of_mem hp
        exact (hl2 i hi).2.2
end
end Go.Proofs.YtfljcfdfgojdoaaGreatDoor.Sh

namespace Go.Proofs.YtfljcfdfgojdoaaGreatDoor.Sh
open Go.RowKit Go.Lib Go.Proofs.YtfljcfdfgojdoaaGreatDoor

/-- an item as it lies in its cells -/
structure Iw where
  k : Int
  nm : List B
  r : Rw
  m : Mw
  o : List B
  b : List B
  ar : Bool
  l : Rw
  q : Rw
abbrev Iw.cs (y : Iw) : Array Value := itC y.k y.nm y.r y.m y.o y.b y.ar y.l y.q
structure ItG (F : Nat → Prop) (w : World) (x : It) (y : Iw) : Prop where
  k : y.k = x.kind
  nm : y.nm = x.name
  r : ReG F w x.re y.r.cs
  m : MpG F w x.map y.m
  o : y.o = x.out
  b : y.b = x.by_
  ar : y.ar = x.around
  l : ReG F w x.left y.l.cs
  q : ReG F w x.right y.q.cs
theorem ItG.below {F : Nat → Prop} {w w' : World} {x : It} {y : Iw} (h : ItG F w x y) (hF : ∀ g, F g → g < w.heap.size) (hb : Below w.heap.size w w') : ItG F w' x y :=
  ⟨h.k, h.nm, h.r.below hF hb, h.m.below hF hb, h.o, h.b, h.ar, h.l.below hF hb, h.q.below hF hb⟩
/-- what the switch tells of an item -/
def okI (x : It) : Bool :=
  if x.kind = 1 ∨ x.kind = 4 then nameOk x.name && okB x.re
  else if x.kind = 2 then nameOk x.name && mrightB 200 x.map
  else if x.kind = 3 then ((okB x.re && decide (x.out.length ≤ 256)) && (decide (x.by_ = []) || (decide (x.out = []) && nameOk x.by_))) && (!x.around || (okB x.left && okB x.right))
  else false
/-- what is left to be empty -/
def restI (y : Iw) : Iw :=
  if y.k = 1 ∨ y.k = 4 then ⟨y.k, [], Rw.zero, y.m, y.o, y.b, y.ar, y.l, y.q⟩
  else if y.k = 2 then ⟨y.k, [], y.r, Mw.zero, y.o, y.b, y.ar, y.l, y.q⟩
  else if y.k = 3 then (if y.ar = true then ⟨y.k, y.nm, Rw.zero, y.m, [], [], false, Rw.zero, Rw.zero⟩ else ⟨y.k, y.nm, Rw.zero, y.m, [], [], y.ar, y.l, y.q⟩)
  else y
def emptyRw (r : Rw) : Bool := emptyB r.k r.x r.s r.n r.mn r.mx
def emptyMw (m : Mw) : Bool := emptyMB m.k m.r m.o m.n m.mn m.mx
def emptyI (y : Iw) : Bool :=
  decide (y.nm = []) && (emptyRw y.r && (emptyMw y.m && (decide (y.o = []) && (decide (y.b = []) && (!y.ar && (emptyRw y.l && emptyRw y.q))))))
def itB (x : It) (y : Iw) : Bool := okI x && emptyI (restI y)
theorem restI_14 {y : Iw} (h : y.k = 1 ∨ y.k = 4) : restI y = ⟨y.k, [], Rw.zero, y.m, y.o, y.b, y.ar, y.l, y.q⟩ := by unfold restI; rw [if_pos h]
theorem restI_2 {y : Iw} (h : y.k = 2) : restI y = ⟨y.k, [], y.r, Mw.zero, y.o, y.b, y.ar, y.l, y.q⟩ := by unfold restI; rw [if_neg (by omega), if_pos h]
theorem restI_3 {y : Iw} (h : y.k = 3) : restI y = (if y.ar = true then ⟨y.k, y.nm, Rw.zero, y.m, [], [], false, Rw.zero, Rw.zero⟩ else ⟨y.k, y.nm, Rw.zero, y.m, [], [], y.ar, y.l, y.q⟩) := by unfold restI; rw [if_neg (by omega), if_neg (by omega), if_pos h]
theorem restI_no {y : Iw} (h1 : ¬ (y.k = 1 ∨ y.k = 4)) (h2 : ¬ y.k = 2) (h3 : ¬ y.k = 3) : restI y = y := by unfold restI; rw [if_neg h1, if_neg h2, if_neg h3]
theorem okI_14 {x : It} (h : x.kind = 1 ∨ x.kind = 4) : okI x = (nameOk x.name && okB x.re) := by unfold okI; rw [if_pos h]
theorem okI_2 {x : It} (h : x.kind = 2) : okI x = (nameOk x.name && mrightB 200 x.map) := by unfold okI; rw [if_neg (by omega), if_pos h]
theorem okI_3 {x : It} (h : x.kind = 3) : okI x = (((okB x.re && decide (x.out.length ≤ 256)) && (decide (x.by_ = []) || (decide (x.out = []) && nameOk x.by_))) && (!x.around || (okB x.left && okB x.right))) := by unfold okI; rw [if_neg (by omega), if_neg (by omega), if_pos h]
theorem okI_no {x : It} (h1 : ¬ (x.kind = 1 ∨ x.kind = 4)) (h2 : ¬ x.kind = 2) (h3 : ¬ x.kind = 3) : okI x = false := by unfold okI; rw [if_neg h1, if_neg h2, if_neg h3]
/-- rows of parts that a slice may have -/
structure FitI (y : Iw) : Prop where
  r : y.r.n ≤ maxLen
  m : y.m.n ≤ maxLen
  mr : y.m.r.n ≤ maxLen
  l : y.l.n ≤ maxLen
  q : y.q.n ≤ maxLen
theorem zero_fit : Rw.zero.n ≤ maxLen := Nat.zero_le _
theorem FitI.rest {y : Iw} (h : FitI y) : FitI (restI y) := by
  unfold restI
  split
  · exact ⟨zero_fit, h.m, h.mr, h.l, h.q⟩
  · split
    · exact ⟨h.r, Nat.zero_le _, Nat.zero_le _, h.l, h.q⟩
    · split
      · split
        · exact ⟨zero_fit, h.m, h.mr, zero_fit, zero_fit⟩
        · exact ⟨zero_fit, h.m, h.mr, h.l, h.q⟩
      · exact h
theorem ItG.fit {F : Nat → Prop} {w : World} {x : It} {y : Iw} (h : ItG F w x y) : FitI y := by
  obtain ⟨xk, xn, xr, xm, xo, xb, xa, xl, xq⟩ := x
  obtain ⟨h1, h2, h3, h4, h5, h6, h7, h8, h9⟩ := h
  obtain ⟨mk, mr, mo, mps, mmn, mmx⟩ := xm
  obtain ⟨_, _, g3, _, _, g6, g7, _⟩ := MpG.open h4
  exact ⟨ReG.rn h3, by rw [g3]; exact g7, ReG.rn g6, ReG.rn h8, ReG.rn h9⟩
end Go.Proofs.YtfljcfdfgojdoaaGreatDoor.Sh
