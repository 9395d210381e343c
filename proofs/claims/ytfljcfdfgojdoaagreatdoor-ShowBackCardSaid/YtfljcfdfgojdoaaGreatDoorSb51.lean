/-
  Few, FewMap: where they return true there are few parts.
  awake of chapter 8 returns true.
-/
import Derived.Test.YtfljcfdfgojdoaaGreatDoorSb49
import Derived.Test.YtfljcfdfgojdoaaGreatDoorSb50
import Derived.Test.YtfljcfdfgojdoaaGreatDoorSb42
namespace Go.Proofs.YtfljcfdfgojdoaaGreatDoor.Sh
open Go.RowKit Go.Lib Go.Proofs.YtfljcfdfgojdoaaGreatDoor

/-- what size hands back: a number; where it is small, it bounds how many there are -/
def SzPost (d c : Nat) (w : World) (e : Ending) (w' : World) : Prop := ∃ n : Nat, e = .returned (.int .i64 n) ∧ n ≤ 1000 * (213 - d) ∧ (n < 1000 → c ≤ n) ∧ Below w.heap.size w w'
theorem nodesL_snoc : ∀ (l : List Re) (p : Re), nodesL (l ++ [p]) = nodesL l + nodes p
  | [], p => by rw [List.nil_append, nodesL, nodesL, nodesL]; omega
  | q :: l, p => by rw [List.cons_append, nodesL, nodesL, nodesL_snoc l p]; omega
theorem mnodesL_snoc : ∀ (l : List Mp) (p : Mp), mnodesL (l ++ [p]) = mnodesL l + mnodes p
  | [], p => by rw [List.nil_append, mnodesL, mnodesL, mnodesL]; omega
  | q :: l, p => by rw [List.cons_append, mnodesL, mnodesL, mnodesL_snoc l p]; omega
set_option maxRecDepth 100000 in
set_option maxHeartbeats 2000000 in
theorem size_few : ∀ (N : Nat) (r : Re), SizeOf.sizeOf r < N → ∀ (d : Nat), d ≤ 211 → ∀ (F : Nat → Prop) (cs : Array Value) (w : World), (∀ g, F g → g < w.heap.size) → ReG F w r cs →
    Calls Tryz.prog 48 #[.agg cs, .int .i64 d] w (SzPost d (nodes r) w) := by
  intro N
  induction N with
  | zero => intro r h; omega
  | succ N ih =>
    intro r hN d hd F cs w hFw h
    obtain ⟨k, x, s, ps, mn, mx⟩ := r
    obtain ⟨ad, cap, rfl, hlen, ho⟩ := h.open
    have hsub : ∀ p ∈ ps, SizeOf.sizeOf p < N := fun p hp => by
      have h1 := List.sizeOf_lt_of_mem hp
      simp only [Re.mk.sizeOf_spec] at hN
      omega
    have IH := hid ih
    have HSUB := hid hsub
    have HFW := hid hFw
    have HO := hid ho
    have HND := hid (show nodes (.mk k x s ps mn mx) = 1 + nodesL ps by rw [nodes])
    unfold maxLen at hlen
    clear h ih hsub hN hFw ho
    have hb0 : Below w.heap.size w (w.alloc (.cells (reC k x s (.slice ad ps.length cap) mn mx) 33)) := (Below.refl _ w).alloc (Nat.le_refl _) _
    have hblk : (w.alloc (.cells (reC k x s (.slice ad ps.length cap) mn mx) 33)).heap[w.heap.size]? = some (.cells (reC k x s (.slice ad ps.length cap) mn mx) 33 (0, 0)) := heap_alloc_new _ _
    have hsz0 : (w.alloc (.cells (reC k x s (.slice ad ps.length cap) mn mx) 33)).heap.size = w.heap.size + 1 := by simp
    have HBK := hid hblk
    have HB0 := hid hb0
    have HSZ0 := hid hsz0
    clear hblk hb0 hsz0
    by_cases hdd : d = 211
    · subst hdd
      go_enter Tryz.func48, Tryz.ntmps48
      go_wp2
      go_ret
      exact ⟨1000, rfl, by omega, fun h => by omega, HB0.out⟩
    · have hd2 : ¬ ((210 : Int) < (d : Int)) := by omega
      go_enter Tryz.func48, Tryz.ntmps48
      go_wp2
      go_loopw [5, 6] (fun vn vi wr => ∃ i n : Nat, i ≤ ps.length ∧ vi = .int .i64 i ∧ vn = .int .i64 n ∧ n ≤ 1000 * (213 - d) ∧ 1 ≤ n ∧ Hid (n < 1000 → 1 + nodesL (ps.take i) ≤ n) ∧ Below (w.heap.size + 1) (w.alloc (.cells (reC k x s (.slice ad ps.length cap) mn mx) 33)) wr) (fun _ vi _ => ps.length - (RowKit.intOf vi).toNat)
      case atStart => exact ⟨0, 1, Nat.zero_le _, rfl, rfl, by omega, Nat.le_refl _, by rw [List.take_zero, nodesL]; exact fun _ => Nat.le_refl _, Below.refl _ _⟩
      case round =>
        obtain ⟨i, n, hi, rfl, rfl, hn, hn1, HN, hb⟩ := hrel
        have hwr : Below w.heap.size w wr := HB0.out.trans (hb.mono (by omega))
        have hsz : w.heap.size + 1 ≤ wr.heap.size := by have := hb.size; have := HSZ0.out; omega
        have hbx := (hb.block w.heap.size (by omega)).trans HBK.out
        have c6 := cell_blk (i := 6) hbx rfl
        clear hbx
        have HRET := hid (show n < 1000 → i = ps.length → SzPost d (nodes (.mk k x s ps mn mx)) w (.returned (.int .i64 n)) wr from fun _ he => ⟨n, rfl, hn, fun hl => by
          have := HN.out hl
          rw [he, List.take_length] at this
          rw [HND.out]; exact this, hwr⟩)
        have HRET2 := hid (show ¬ n < 1000 → SzPost d (nodes (.mk k x s ps mn mx)) w (.returned (.int .i64 n)) wr from fun hl => ⟨n, rfl, hn, fun h => absurd h hl, hwr⟩)
        by_cases hlt : i < ps.length
        · have hgi : (i : Int) < (ps.length : Int) := by omega
          by_cases hn0 : n < 1000
          · have hni : (n : Int) < 1000 := by omega
            obtain ⟨g, off, rfl, hgF, hparts⟩ := HO.out (by rintro rfl; simp at hlt)
            obtain ⟨k1, x1, s1, ad1, n1, cap1, mn1, mx1, hr1, hc⟩ := hparts.at (List.getElem?_eq_getElem hlt)
            obtain ⟨a0, a1, a2, a3, a4, a5, a6, a7, a8⟩ := elem9_of (W := wr) (g := g) (o := off + i * 9) fun j v hv => (hwr.cell (p := ⟨g, off + i * 9 + j, none⟩) (HFW.out g hgF)).trans (hc j v hv)
            have hcall := IH.out _ (HSUB.out _ (List.getElem_mem hlt)) (d + 1) (by omega) F _ wr (fun g hg => by have := HFW.out g hg; omega) (hr1.below HFW.out hwr)
            have hcd : (((d + 1 : Nat)) : Int) = (d : Int) + 1 := by omega
            rw [hcd] at hcall
            have HTS := hid (take_snoc hlt)
            have HNS := hid (nodesL_snoc (ps.take i) ps[i])
            clear hparts hc hr1 hcd
            go_wp2_with (go_at_call 48; refine hcall.mono ?_; clear hcall; rintro e w3 ⟨n3, rfl, hn3, hn3', hb3⟩; have HN3 := hid hn3'; clear hn3')
            go_roundw
            case rel => exact ⟨i + 1, n + n3, by omega, by go_num, by go_num, by omega, by omega, hid (fun hl => by
              have h1 := HN.out hn0
              have h2 := HN3.out (by omega)
              rw [HTS.out, HNS.out]; omega), hb.trans (hb3.mono (by omega))⟩
            case measure => simp [RowKit.intOf]; omega
          · have hni : ¬ (n : Int) < 1000 := by omega
            go_wp2
            go_ret
            exact HRET2.out hn0
        · obtain rfl : i = ps.length := by omega
          go_wp2
          go_ret
          by_cases hn0 : n < 1000
          · exact HRET.out hn0 (by first | rfl | trivial)
          · exact HRET2.out hn0
/-- what Few hands back -/
def FewP (P : Prop) (w : World) (e : Ending) (w' : World) : Prop := ∃ b : Bool, e = .returned (.bool b) ∧ (b = true → P) ∧ Below w.heap.size w w'
theorem FewP.mk {P : Prop} {w w' : World} (b : Bool) (h : b = true → P) (hb : Below w.heap.size w w') : FewP P w (.returned (.bool b)) w' := ⟨b, rfl, h, hb⟩
set_option maxRecDepth 100000 in
set_option maxHeartbeats 1000000 in
theorem few_re {F : Nat → Prop} {r : Re} {cs : Array Value} {w : World} (hFw : ∀ g, F g → g < w.heap.size) (hG : ReG F w r cs) : Calls Tryz.prog 15 #[.agg cs] w (FewP (nodes r < 1000) w) := by
  obtain ⟨k, x, s, ad, n, cap, mn, mx, rfl⟩ := hG.cells
  have hb0 : Below w.heap.size w (w.alloc (.cells (reC k x s (.slice ad n cap) mn mx) 33)) := (Below.refl _ w).alloc (Nat.le_refl _) _
  have hsz : (w.alloc (.cells (reC k x s (.slice ad n cap) mn mx) 33)).heap.size = w.heap.size + 1 := by simp
  have hc := size_few _ r (Nat.lt_succ_self _) 0 (by decide) F _ (w.alloc (.cells (reC k x s (.slice ad n cap) mn mx) 33)) (fun g hg => by have := hFw g hg; omega) (hG.below hFw hb0)
  have HB := hid hb0
  clear hG hFw hb0
  go_enter Tryz.func15, Tryz.ntmps15
  go_wp2_with (go_at_call 48; refine hc.mono ?_; clear hc; rintro e w2 ⟨n2, rfl, _, hn2, hb2⟩; have HN2 := hid hn2; clear hn2)
  go_ret
  exact FewP.mk _ (fun h => by
    have h1 : (n2 : Int) < 1000 := by simpa using h
    have := HN2.out (by omega)
    omega) (HB.out.trans (hb2.mono (by omega)))
set_option maxRecDepth 100000 in
set_option maxHeartbeats 2000000 in
theorem msize_few : ∀ (N : Nat) (r : Mp), SizeOf.sizeOf r < N → ∀ (d : Nat), d ≤ 211 → ∀ (F : Nat → Prop) (y : Mw) (w : World), (∀ g, F g → g < w.heap.size) → MpG F w r y →
    Calls Tryz.prog 49 #[.agg y.cs, .int .i64 d] w (SzPost d (mnodes r) w) := by
  intro N
  induction N with
  | zero => intro r h; omega
  | succ N ih =>
    intro r hN d hd F y w hFw h
    obtain ⟨k, re, o, ps, mn, mx⟩ := r
    obtain ⟨yk, ⟨rk, rx, rs, ra, rl, rc, rn, rm⟩, yo, ad, yn, cap, ymn, ymx⟩ := y
    obtain ⟨h1, h2, h3, h4, h5, hre, hlen, ho⟩ := h.open
    dsimp only at h1 h2 h3 h4 h5 hre ho
    subst h1 h2 h4 h5 h3
    have hsub : ∀ p ∈ ps, SizeOf.sizeOf p < N := fun p hp => by
      have h1 := List.sizeOf_lt_of_mem hp
      simp only [Mp.mk.sizeOf_spec] at hN
      omega
    have IH := hid ih
    have HSUB := hid hsub
    have HFW := hid hFw
    have HO := hid ho
    have HND := hid (show mnodes (.mk yk re yo ps ymn ymx) = 1 + mnodesL ps by rw [mnodes])
    unfold maxLen at hlen
    have HRE := hid hre
    clear h ih hsub hN hFw ho hre
    have hb0 : Below w.heap.size w (w.alloc (.cells (mpC yk rk rx rs (.slice ra rl rc) rn rm yo (.slice ad ps.length cap) ymn ymx) 36)) := (Below.refl _ w).alloc (Nat.le_refl _) _
    have hblk : (w.alloc (.cells (mpC yk rk rx rs (.slice ra rl rc) rn rm yo (.slice ad ps.length cap) ymn ymx) 36)).heap[w.heap.size]? = some (.cells (mpC yk rk rx rs (.slice ra rl rc) rn rm yo (.slice ad ps.length cap) ymn ymx) 36 (0, 0)) := heap_alloc_new _ _
    have hsz0 : (w.alloc (.cells (mpC yk rk rx rs (.slice ra rl rc) rn rm yo (.slice ad ps.length cap) ymn ymx) 36)).heap.size = w.heap.size + 1 := by simp
    have HBK := hid hblk
    have HB0 := hid hb0
    have HSZ0 := hid hsz0
    clear hblk hb0 hsz0
    by_cases hdd : d = 211
    · subst hdd
      go_enter Tryz.func49, Tryz.ntmps49
      go_wp2
      go_ret
      exact ⟨1000, rfl, by omega, fun h => by omega, HB0.out⟩
    · have hd2 : ¬ ((210 : Int) < (d : Int)) := by omega
      have hfew := few_re (w := w.alloc (.cells (mpC yk rk rx rs (.slice ra rl rc) rn rm yo (.slice ad ps.length cap) ymn ymx) 36)) (r := re) (cs := reC rk rx rs (.slice ra rl rc) rn rm) (F := F) (fun g hg => by have := HFW.out g hg; simp; omega) (HRE.out.below HFW.out HB0.out)
      have hfew' := hid hfew
      clear hfew
      go_enter Tryz.func49, Tryz.ntmps49
      go_upto_region 2 with fail
      go_upto_if 20 with (go_at_call 15; refine hfew'.out.mono ?_; rintro e w1 ⟨bf, rfl, hbf, hb1⟩; have hbx := (hb1.block w.heap.size (by rw [HSZ0.out]; omega)).trans HBK.out; have HBX := hid hbx; have c10 := cell_blk (i := 10) hbx rfl; have HB1 := hid hb1; have HS1 := hid (show w.heap.size + 1 ≤ w1.heap.size by have := hb1.size; rw [HSZ0.out] at this; exact this); have HB01 := hid (HB0.out.trans (hb1.mono (by rw [HSZ0.out]; omega))); clear hb1 hbx hbf)
      · by_cases hol : (600 : Int) < (yo.length : Int)
        · rw [decide_eq_true hol]
          go_wp2
          go_ret
          exact ⟨1000, rfl, by omega, fun h => by omega, HB01.out⟩
        · rw [decide_eq_false hol]
          clear c10
          go_wp2
          go_loopw [5, 6] (fun vn vi wr => ∃ i n : Nat, i ≤ ps.length ∧ vi = .int .i64 i ∧ vn = .int .i64 n ∧ n ≤ 1000 * (213 - d) ∧ 1 ≤ n ∧ Hid (n < 1000 → 1 + mnodesL (ps.take i) ≤ n) ∧ Below (w.heap.size + 1) w1 wr) (fun _ vi _ => ps.length - (RowKit.intOf vi).toNat)
          case atStart => exact ⟨0, 1, Nat.zero_le _, rfl, rfl, by omega, Nat.le_refl _, by rw [List.take_zero, mnodesL]; exact fun _ => Nat.le_refl _, Below.refl _ _⟩
          case round =>
            obtain ⟨i, n, hi, rfl, rfl, hn, hn1, HN, hb⟩ := hrel
            have hwr : Below w.heap.size w wr := HB01.out.trans (hb.mono (by omega))
            have hsz : w.heap.size + 1 ≤ wr.heap.size := by have := hb.size; have := HS1.out; omega
            have hbx := (hb.block w.heap.size (by omega)).trans HBX.out
            have c6 := cell_blk (i := 11) hbx rfl
            clear hbx
            have HRET := hid (show n < 1000 → i = ps.length → SzPost d (mnodes (.mk yk re yo ps ymn ymx)) w (.returned (.int .i64 n)) wr from fun _ he => ⟨n, rfl, hn, fun hl => by
              have := HN.out hl
              rw [he, List.take_length] at this
              rw [HND.out]; exact this, hwr⟩)
            have HRET2 := hid (show ¬ n < 1000 → SzPost d (mnodes (.mk yk re yo ps ymn ymx)) w (.returned (.int .i64 n)) wr from fun hl => ⟨n, rfl, hn, fun h => absurd h hl, hwr⟩)
            by_cases hlt : i < ps.length
            · have hgi : (i : Int) < (ps.length : Int) := by omega
              by_cases hn0 : n < 1000
              · have hni : (n : Int) < 1000 := by omega
                obtain ⟨g, off, rfl, hgF, hparts⟩ := HO.out (by rintro rfl; simp at hlt)
                obtain ⟨z, hr1, hc⟩ := hparts.at (List.getElem?_eq_getElem hlt)
                obtain ⟨a0, a1, a2, a3, a4, a5, a6, a7, a8, a9, a10, a11, a12, a13⟩ := elem14_of (W := wr) (g := g) (o := off + i * 14) (y := z) fun j v hv => (hwr.cell (p := ⟨g, off + i * 14 + j, none⟩) (HFW.out g hgF)).trans (hc j v hv)
                have hcall := IH.out _ (HSUB.out _ (List.getElem_mem hlt)) (d + 1) (by omega) F _ wr (fun g hg => by have := HFW.out g hg; omega) (hr1.below HFW.out hwr)
                have hcd : (((d + 1 : Nat)) : Int) = (d : Int) + 1 := by omega
                rw [hcd] at hcall
                have HTS := hid (take_snoc hlt)
                have HNS := hid (mnodesL_snoc (ps.take i) ps[i])
                clear hparts hc hr1 hcd
                go_wp2_with (go_at_call 49; refine hcall.mono ?_; clear hcall; rintro e w3 ⟨n3, rfl, hn3, hn3', hb3⟩; have HN3 := hid hn3'; clear hn3')
                go_roundw
                case rel => exact ⟨i + 1, n + n3, by omega, by go_num, by go_num, by omega, by omega, hid (fun hl => by
                  have h1 := HN.out hn0
                  have h2 := HN3.out (by omega)
                  rw [HTS.out, HNS.out]; omega), hb.trans (hb3.mono (by omega))⟩
                case measure => simp [RowKit.intOf]; omega
              · have hni : ¬ (n : Int) < 1000 := by omega
                go_wp2
                go_ret
                exact HRET2.out hn0
            · obtain rfl : i = ps.length := by omega
              go_wp2
              go_ret
              by_cases hn0 : n < 1000
              · exact HRET.out hn0 (by first | rfl | trivial)
              · exact HRET2.out hn0
      · go_wp2
        go_ret
        exact ⟨1000, rfl, by omega, fun h => by omega, HB01.out⟩
set_option maxRecDepth 100000 in
set_option maxHeartbeats 1000000 in
theorem few_mp {F : Nat → Prop} {r : Mp} {y : Mw} {w : World} (hFw : ∀ g, F g → g < w.heap.size) (hG : MpG F w r y) : Calls Tryz.prog 16 #[.agg y.cs] w (FewP (mnodes r < 1000) w) := by
  have hb0 : Below w.heap.size w (w.alloc (.cells y.cs 36)) := (Below.refl _ w).alloc (Nat.le_refl _) _
  have hsz : (w.alloc (.cells y.cs 36)).heap.size = w.heap.size + 1 := by simp
  have hc := msize_few _ r (Nat.lt_succ_self _) 0 (by decide) F y (w.alloc (.cells y.cs 36)) (fun g hg => by have := hFw g hg; omega) (hG.below hFw hb0)
  have HB := hid hb0
  clear hG hFw hb0
  go_enter Tryz.func16, Tryz.ntmps16
  go_wp2_with (go_at_call 49; refine hc.mono ?_; clear hc; rintro e w2 ⟨n2, rfl, _, hn2, hb2⟩; have HN2 := hid hn2; clear hn2)
  go_ret
  exact FewP.mk _ (fun h => by
    have h1 : (n2 : Int) < 1000 := by simpa using h
    have := HN2.out (by omega)
    omega) (HB.out.trans (hb2.mono (by omega)))
end Go.Proofs.YtfljcfdfgojdoaaGreatDoor.Sh

namespace Go.Proofs.YtfljcfdfgojdoaaGreatDoor.Sh
open Go.RowKit Go.Lib Go.Proofs.YtfljcfdfgojdoaaGreatDoor

theorem mkNode {F : Nat → Prop} {w : World} {g : Nat} {k : Int} {x : List B} {s : Se} {ps : List Re} {mn mx : Int} {cur : Array Value} (hg : w.heap[g]? = some (.cells cur 33 (0, 0))) (hF : F g) (hp : PartsIn F w ps cur.toList) (hc : cur.size = ps.length * 9) (hl : ps.length ≤ maxLen) :
    ReIn F w (.mk k x s ps mn mx) (reC k x s (.slice (some ⟨g, 0, none⟩) ps.length ps.length) mn mx) := by
  unfold ReIn
  refine ⟨_, _, cur.toList, rfl, ⟨hc, .inr ⟨g, ps.length, cur, rfl, Nat.zero_le _, hg, Nat.le_refl _, hl, hc, ?_⟩⟩, fun q hq => ?_, hp⟩
  · rw [← hc]; exact List.take_of_length_le (Nat.le_refl _)
  · simp [Value.ownBlock] at hq; subst hq; exact hF
abbrev A0 : Array Value := reC 2 [] bSet (.slice none 0 0) 0 0
abbrev A1 (N : Nat) : Array Value := reC 8 [] Se.none (.slice (some ⟨N, 0, none⟩) 1 1) 0 (-1)
abbrev A2 (N : Nat) : Array Value := #[.int .i64 1, .string ⟨#[97]⟩, .int .u64 0, .int .u64 0, .int .u64 0, .int .u64 0, .slice none 0 0, .int .i64 0, .int .i64 0, .int .i64 8, .string ⟨#[]⟩, .int .u64 0, .int .u64 0, .int .u64 0, .int .u64 0, .slice (some ⟨N, 0, none⟩) 1 1, .int .i64 0, .int .i64 (-1)]
abbrev A3 (N : Nat) : Array Value := reC 4 [] Se.none (.slice (some ⟨N + 1 + 1, 0, none⟩) 2 2) 0 0
abbrev A4 : Array Value := reC 3 [120] Se.none (.slice none 0 0) 0 0
abbrev A5 (N : Nat) : Array Value := reC 7 [] Se.none (.slice (some ⟨N + 1 + 1 + 1 + 1, 0, none⟩) 1 1) 0 0
abbrev A6 (N : Nat) : Array Value := #[.int .i64 4, .string ⟨#[]⟩, .int .u64 0, .int .u64 0, .int .u64 0, .int .u64 0, .slice (some ⟨N + 1 + 1, 0, none⟩) 2 2, .int .i64 0, .int .i64 0, .int .i64 7, .string ⟨#[]⟩, .int .u64 0, .int .u64 0, .int .u64 0, .int .u64 0, .slice (some ⟨N + 1 + 1 + 1 + 1, 0, none⟩) 1 1, .int .i64 0, .int .i64 0]
abbrev awW6 (w : World) : World := (((((w.alloc (.cells A0 33)).alloc (.cells (A1 w.heap.size) 33)).alloc (.cells (A2 w.heap.size) 33)).alloc (.cells (A3 w.heap.size) 33)).alloc (.cells A4 33)).alloc (.cells (A5 w.heap.size) 33)
abbrev awW (w : World) : World := (awW6 w).alloc (.cells (A6 w.heap.size) 33)
theorem heap_push (w : World) (o : Obj) : (w.alloc o).heap = w.heap.push o := rfl
theorem aw6_below (w : World) : Below w.heap.size w (awW6 w) := by
  unfold awW6
  repeat (first | exact Below.refl _ _ | refine Below.alloc ?_ (by simp; try omega) _)
theorem aw_below (w : World) : Below w.heap.size w (awW w) := (aw6_below w).alloc (by simp; omega) _
theorem aw_size (w : World) : (awW w).heap.size = w.heap.size + 7 := by simp
theorem aw_tree (w : World) : ReIn (fun g => g < w.heap.size + 7) (awW w) awRe (reC 5 [] Se.none (.slice (some ⟨w.heap.size + 1 + 1 + 1 + 1 + 1 + 1, 0, none⟩) 2 2) 0 0) := by
  have b0 : (awW w).heap[w.heap.size]? = some (.cells A0 33 (0, 0)) := by
    simp only [heap_push, Array.getElem?_push, Array.size_push]
    simp
    repeat rw [if_neg (by omega)]
  have b2 : (awW w).heap[w.heap.size + 1 + 1]? = some (.cells (A2 w.heap.size) 33 (0, 0)) := by simp only [heap_push, Array.getElem?_push, Array.size_push]; simp
  have b4 : (awW w).heap[w.heap.size + 1 + 1 + 1 + 1]? = some (.cells A4 33 (0, 0)) := by simp only [heap_push, Array.getElem?_push, Array.size_push]; simp
  have b6 : (awW w).heap[w.heap.size + 1 + 1 + 1 + 1 + 1 + 1]? = some (.cells (A6 w.heap.size) 33 (0, 0)) := by simp only [heap_push, Array.getElem?_push, Array.size_push]; simp
  obtain ⟨F, hF⟩ : ∃ F : Nat → Prop, F = fun g => g < w.heap.size + 7 := ⟨_, rfl⟩
  have f0 : F w.heap.size := by rw [hF]; show w.heap.size < _; omega
  have f2 : F (w.heap.size + 1 + 1) := by rw [hF]; show w.heap.size + 1 + 1 < _; omega
  have f4 : F (w.heap.size + 1 + 1 + 1 + 1) := by rw [hF]; show w.heap.size + 1 + 1 + 1 + 1 < _; omega
  have f6 : F (w.heap.size + 1 + 1 + 1 + 1 + 1 + 1) := by rw [hF]; show w.heap.size + 1 + 1 + 1 + 1 + 1 + 1 < _; omega
  rw [← hF]
  generalize awW w = W at *
  have t0 : ReIn F W (.mk 2 [] bSet [] 0 0) A0 := ReIn.leaf _ _ _ _ _ _ _
  have t1 : ReIn F W awStar (A1 w.heap.size) := mkNode (ps := [.mk 2 [] bSet [] 0 0]) b0 f0 (by unfold PartsIn PartsIn; exact ⟨A0, [], rfl, t0, rfl⟩) rfl (by simp [maxLen])
  have ta : ReIn F W (.mk 1 [97] Se.none [] 0 0) (reC 1 [97] Se.none (.slice none 0 0) 0 0) := ReIn.leaf _ _ _ _ _ _ _
  have t3 : ReIn F W awOne (A3 w.heap.size) := mkNode (ps := [.mk 1 [97] Se.none [] 0 0, awStar]) b2 f2 (by unfold PartsIn PartsIn PartsIn; exact ⟨_, _, rfl, ta, _, [], rfl, t1, rfl⟩) rfl (by simp [maxLen])
  have tx : ReIn F W (.mk 3 [120] Se.none [] 0 0) A4 := ReIn.leaf _ _ _ _ _ _ _
  have t5 : ReIn F W awTwo (A5 w.heap.size) := mkNode (ps := [.mk 3 [120] Se.none [] 0 0]) b4 f4 (by unfold PartsIn PartsIn; exact ⟨A4, [], rfl, tx, rfl⟩) rfl (by simp [maxLen])
  exact mkNode (ps := [awOne, awTwo]) b6 f6 (by unfold PartsIn PartsIn PartsIn; exact ⟨_, _, rfl, t3, _, [], rfl, t5, rfl⟩) rfl (by simp [maxLen])
theorem aw_se : SeRe awRe := by
  have n : SeOk Se.none := SeOk.none
  have b : SeOk bSet := ⟨⟨by decide, by decide⟩, ⟨by decide, by decide⟩, ⟨by decide, by decide⟩, ⟨by decide, by decide⟩⟩
  refine .mk _ _ _ _ _ _ n fun p hp => ?_
  simp at hp
  rcases hp with rfl | rfl
  · refine .mk _ _ _ _ _ _ n fun p hp => ?_
    simp at hp
    rcases hp with rfl | rfl
    · exact .mk _ _ _ _ _ _ n fun p hp => by simp at hp
    · refine .mk _ _ _ _ _ _ n fun p hp => ?_
      simp at hp
      subst hp
      exact .mk _ _ _ _ _ _ b fun p hp => by simp at hp
  · refine .mk _ _ _ _ _ _ n fun p hp => ?_
    simp at hp
    subst hp
    exact .mk _ _ _ _ _ _ n fun p hp => by simp at hp
theorem aw_tx : TxRe awRe := by
  refine .mk _ _ _ _ _ _ (by simp) fun p hp => ?_
  simp at hp
  rcases hp with rfl | rfl
  · refine .mk _ _ _ _ _ _ (by simp) fun p hp => ?_
    simp at hp
    rcases hp with rfl | rfl
    · exact .mk _ _ _ _ _ _ (by simp) fun p hp => by simp at hp
    · refine .mk _ _ _ _ _ _ (by simp) fun p hp => ?_
      simp at hp
      subst hp
      exact .mk _ _ _ _ _ _ (by simp) fun p hp => by simp at hp
  · refine .mk _ _ _ _ _ _ (by simp) fun p hp => ?_
    simp at hp
    subst hp
    exact .mk _ _ _ _ _ _ (by simp) fun p hp => by simp at hp
theorem aw_text : endM (reW setS awRe) (reD awRe) = ([34, 97, 34, 32, 91, 98, 93, 42, 32, 124, 32, 33, 120], 0) := by kernel_rfl
theorem aw_len : (reW setS awRe).length = 13 := by kernel_rfl
theorem aw_dep : reD awRe = 1 := by kernel_rfl
theorem aw_show : showRe awRe = ([34, 97, 34, 32, 91, 98, 93, 42, 32, 124, 32, 33, 120], 0) := by
  unfold showRe
  rw [if_pos (okRe_check aw_ok (by decide)), aw_text]
set_option maxRecDepth 100000 in
set_option maxHeartbeats 1000000 in
theorem awake8_any (w : World) : Calls Tryz.prog 14 #[] w fun e w' => e = .returned (.bool true) ∧ Below w.heap.size w w' := by
  have e24 := eq24
  have hbox := hid (show (w.alloc (.cells #[.int .u8 98] 5)).heap[w.heap.size]? = some (.cells #[.int .u8 98] 5 (0, 0)) from heap_alloc_new _ _)
  have hsz1 := hid (show (w.alloc (.cells #[.int .u8 98] 5)).heap.size = w.heap.size + 1 by simp)
  have HB1 := hid ((Below.refl w.heap.size w).alloc (Nat.le_refl _) (.cells #[.int .u8 98] 5))
  have HST := hid (fun (W : World) => showRe_any (F := fun g => g < W.heap.size + 7) (w := awW W) (fun g hg => by rw [aw_size]; exact hg) (ReG.ofIn (aw_tree W)) aw_tx aw_se (fun _ => by rw [aw_dep]; decide) (fun _ => by rw [aw_len]; decide))
  have HSH := hid aw_show
  go_enter Tryz.func14, Tryz.ntmps14
  go_upto_region 4 with (go_at_call 47; go_loud (refine (of_b _ _ hbox.out).mono ?_; rintro e w2 ⟨rfl, hb2⟩; have HB2 := hid (HB1.out.trans (hb2.mono (by rw [hsz1.out]; omega))); clear hb2))
  go_upto_region 5 with (go_at_call 17; go_loud (refine (HST.out w2).mono ?_; rw [HSH.out]; rintro e w3 ⟨rfl, hb3⟩))
  go_wp2
  go_ret
  exact ⟨rfl, HB2.out.trans ((aw_below w2).mono HB2.out.size |>.trans (hb3.mono (by have := HB2.out.size; rw [aw_size]; omega)))⟩
end Go.Proofs.YtfljcfdfgojdoaaGreatDoor.Sh
