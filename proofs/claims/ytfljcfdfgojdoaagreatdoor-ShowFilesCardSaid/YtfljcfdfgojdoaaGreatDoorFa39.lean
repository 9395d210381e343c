/-
  The reference's Check; SameRe and SameMap against nothing. (Printed by genZm.py.)
  FewMap: where it returns true, the expressions within a map have few parts, too.
-/
import Derived.Test.YtfljcfdfgojdoaaGreatDoorFa36
import Derived.Test.YtfljcfdfgojdoaaGreatDoorFa37
import Derived.Test.YtfljcfdfgojdoaaGreatDoorFa38
import Derived.Test.YtfljcfdfgojdoaaGreatDoorFa25
namespace Go.Proofs.YtfljcfdfgojdoaaGreatDoor.Sh.Rf
open Go.RowKit Go.Lib Go.Proofs.YtfljcfdfgojdoaaGreatDoor Go.Proofs.YtfljcfdfgojdoaaGreatDoor.Sh

set_option maxRecDepth 100000 in
set_option maxHeartbeats 1000000 in
theorem checkR_any {F : Nat → Prop} {r : Re} {cs : Array Value} {w : World} (hFw : ∀ g, F g → g < w.heap.size) (h : ReG F w r cs) (ht : TxRe r) (hn : nodes r ≤ 1000000) :
    Calls Tryz.prog 71 #[.agg cs] w fun e w' => e = .returned (.int .i64 (checkM r)) ∧ Below w.heap.size w w' := by
  obtain ⟨k, x, s, ad, n, cap, mn, mx, rfl⟩ := h.cells
  have hb0 : Below w.heap.size w (w.alloc (.cells (reC k x s (.slice ad n cap) mn mx) 33)) := (Below.refl _ w).alloc (Nat.le_refl _) _
  have hsz : (w.alloc (.cells (reC k x s (.slice ad n cap) mn mx) 33)).heap.size = w.heap.size + 1 := by simp
  have hblk : (w.alloc (.cells (reC k x s (.slice ad n cap) mn mx) 33)).heap[w.heap.size]? = some (.cells (reC k x s (.slice ad n cap) mn mx) 33 (0, 0)) := heap_alloc_new _ _
  have hd := deepE_any (F := F) (r := r) (w := w.alloc (.cells (reC k x s (.slice ad n cap) mn mx) 33)) (fun g hg => by have := hFw g hg; omega) (h.below hFw hb0) hn
  obtain ⟨c0, c1, c2, c3, c4, c5, c6, c7, c8⟩ := nine_of hblk
  have HB := hid hb0
  have HBK := hid hblk
  have HR := hid (show deepB 200 r = false → ∀ W : World, Below w.heap.size w W → Calls Tryz.prog 128 #[.agg (reC k x s (.slice ad n cap) mn mx)] W fun e w' => e = .returned (.bool (rightB 200 r)) ∧ Below W.heap.size W w' from fun hf W hb => rightR_any 200 r hf ht F _ W (fun g hg => Nat.lt_of_lt_of_le (hFw g hg) hb.size) (h.below hFw hb))
  have HC := hid (show checkM r = _ from rfl)
  clear h ht hFw hb0 hblk hn
  by_cases hdp : deepB 200 r = true
  · have hcond : ∀ nd : Nat, (200 < nd ↔ deepB 200 r = true) → (200 : Int) < (nd : Int) := fun nd h => by have := h.2 hdp; omega
    have HC2 := hid (HC.out.trans (if_pos hdp))
    clear hdp
    go_enter Tryz.func71, Tryz.ntmps71
    go_wp2_with (first | (go_at_call 127; refine hd.mono ?_; clear hd; rintro e w2 ⟨nd, rfl, hnd, hnd2, hb2⟩; have hcmp := hcond nd hnd; have HB2 := hid (HB.out.trans (hb2.mono (by omega))); clear c0 c1 c2 c3 c4 c5 c6 c7 c8; obtain ⟨c0, c1, c2, c3, c4, c5, c6, c7, c8⟩ := nine_of ((hb2.block w.heap.size (by omega)).trans HBK.out); clear hnd) | (go_at_call 128; refine (hrg _ HB2.out).mono ?_; clear hrg; rintro e w3 ⟨rfl, hb3⟩))
    go_ret
    rw [HC2.out]
    exact ⟨rfl, HB2.out⟩
  · have hcond : ∀ nd : Nat, (200 < nd ↔ deepB 200 r = true) → ¬ (200 : Int) < (nd : Int) := fun nd h hc => hdp (h.1 (by omega))
    rw [Bool.not_eq_true] at hdp
    have HC2 := hid (HC.out.trans (if_neg (by rw [hdp]; simp)))
    have hrg := HR.out hdp
    clear hdp
    by_cases hrt : rightB 200 r = true
    · rw [hrt] at hrg
      have HC3 := hid (HC2.out.trans (if_pos hrt))
      clear hrt
      go_enter Tryz.func71, Tryz.ntmps71
      go_wp2_with (first | (go_at_call 127; refine hd.mono ?_; clear hd; rintro e w2 ⟨nd, rfl, hnd, hnd2, hb2⟩; have hcmp := hcond nd hnd; have HB2 := hid (HB.out.trans (hb2.mono (by omega))); clear c0 c1 c2 c3 c4 c5 c6 c7 c8; obtain ⟨c0, c1, c2, c3, c4, c5, c6, c7, c8⟩ := nine_of ((hb2.block w.heap.size (by omega)).trans HBK.out); clear hnd) | (go_at_call 128; refine (hrg _ HB2.out).mono ?_; clear hrg; rintro e w3 ⟨rfl, hb3⟩))
      go_ret
      rw [HC3.out]
      exact ⟨rfl, HB2.out.trans (hb3.mono HB2.out.size)⟩
    · rw [Bool.not_eq_true] at hrt
      rw [hrt] at hrg
      have HC3 := hid (HC2.out.trans (if_neg (by rw [hrt]; simp)))
      clear hrt
      go_enter Tryz.func71, Tryz.ntmps71
      go_wp2_with (first | (go_at_call 127; refine hd.mono ?_; clear hd; rintro e w2 ⟨nd, rfl, hnd, hnd2, hb2⟩; have hcmp := hcond nd hnd; have HB2 := hid (HB.out.trans (hb2.mono (by omega))); clear c0 c1 c2 c3 c4 c5 c6 c7 c8; obtain ⟨c0, c1, c2, c3, c4, c5, c6, c7, c8⟩ := nine_of ((hb2.block w.heap.size (by omega)).trans HBK.out); clear hnd) | (go_at_call 128; refine (hrg _ HB2.out).mono ?_; clear hrg; rintro e w3 ⟨rfl, hb3⟩))
      go_ret
      rw [HC3.out]
      exact ⟨rfl, HB2.out.trans (hb3.mono HB2.out.size)⟩
set_option maxRecDepth 100000 in
set_option maxHeartbeats 4000000 in
theorem sameZ0 (k : Int) (x : List B) (s : Se) (ad : Option Addr) (n cap : Nat) (mn mx : Int) (_hn : n ≤ maxLen) (w : World) :
    Calls Tryz.prog 19 #[.agg (reC k x s (.slice ad n cap) mn mx), .agg reZ] w fun e w' => e = .returned (.bool (emptyB k x s n mn mx)) ∧ Below w.heap.size w w' := by
  have HB := hid (show ∀ o1 o2 : Obj, Below w.heap.size w ((w.alloc o1).alloc o2) from fun o1 o2 => ((Below.refl _ w).alloc (Nat.le_refl _) _).alloc (by simp) _)
  have HM := hid (show emptyB k x s n mn mx = (decide (k = 0) && (decide (x = []) && (noneB s && (decide (n = 0) && (decide (mn = 0) && decide (mx = 0)))))) from rfl)
  obtain ⟨b, hb⟩ : ∃ b : Bool, b = emptyB k x s n mn mx := ⟨_, rfl⟩
  rw [← hb] at HM ⊢
  clear hb
  have e24 := eq24
  have n1 : Se.none.a = 0 := rfl
  have n2 : Se.none.b = 0 := rfl
  have n3 : Se.none.c = 0 := rfl
  have n4 : Se.none.d = 0 := rfl
  unfold maxLen at _hn
  by_cases hk : k = 0
  · have hkq : (k == 0) = true := by simpa using hk
    by_cases hxe : x = []
    · have HXE := hid hxe
      subst hxe
      by_cases hss : noneB s = true
      · have HSS := hid hss
        obtain rfl := noneB_eq hss
        by_cases hmn : mn = 0
        · have hmq : (mn == 0) = true := by simpa using hmn
          by_cases hmx : mx = 0
          · have hmq2 : (mx == 0) = true := by simpa using hmx
            by_cases hn0 : n = 0
            · have hnq : ((n : Int) == 0) = true := by simp [hn0]
              have HF := hid (show b = true by rw [HM.out, decide_eq_true hk, decide_eq_true rfl, HSS.out, decide_eq_true hn0, decide_eq_true hmn, decide_eq_true hmx]; rfl)
              go_enter Tryz.func19, Tryz.ntmps19
              go_wp2
              have hn1 : ¬ (0 : Int) < (n : Int) := by omega
              refine wp_loop_rounds 1 ?_
              rw [rounds_succ]
              go_wp2
              go_ret
              exact ⟨bool_eq HF.out.symm, HB.out _ _⟩
            · have hnq : ((n : Int) == 0) = false := by rw [beq_eq_false_iff_ne]; omega
              have HF := hid (show b = false by rw [HM.out, decide_eq_false hn0]; simp)
              go_enter Tryz.func19, Tryz.ntmps19
              go_wp2
              go_ret
              exact ⟨bool_eq HF.out.symm, HB.out _ _⟩
          · have hmq2 : (mx == 0) = false := by simpa using hmx
            have HF := hid (show b = false by rw [HM.out, decide_eq_false hmx]; simp)
            go_enter Tryz.func19, Tryz.ntmps19
            go_wp2
            go_ret
            exact ⟨bool_eq HF.out.symm, HB.out _ _⟩
        · have hmq : (mn == 0) = false := by simpa using hmn
          have HF := hid (show b = false by rw [HM.out, decide_eq_false hmn]; simp)
          go_enter Tryz.func19, Tryz.ntmps19
          go_wp2
          go_ret
          exact ⟨bool_eq HF.out.symm, HB.out _ _⟩
      · have hsx : (s.a == 0 && s.b == 0 && s.c == 0 && s.d == 0) = false := by have := hss; rw [Bool.not_eq_true] at this; exact this
        have HF := hid (show b = false by rw [HM.out, (by rw [Bool.not_eq_true] at hss; exact hss : noneB s = false)]; simp)
        go_enter Tryz.func19, Tryz.ntmps19
        go_wp2
        go_ret
        exact ⟨bool_eq HF.out.symm, HB.out _ _⟩
    · obtain ⟨hx1, hx2⟩ := str_none hxe
      have HF := hid (show b = false by rw [HM.out, decide_eq_false hxe]; simp)
      go_enter Tryz.func19, Tryz.ntmps19
      go_wp2
      go_ret
      exact ⟨bool_eq HF.out.symm, HB.out _ _⟩
  · have hkq : (k == 0) = false := by simpa using hk
    have HF := hid (show b = false by rw [HM.out, decide_eq_false hk]; simp)
    go_enter Tryz.func19, Tryz.ntmps19
    go_wp2
    go_ret
    exact ⟨bool_eq HF.out.symm, HB.out _ _⟩
theorem sameZ_any (y : Rw) (hn : y.n ≤ maxLen) (w : World) :
    Calls Tryz.prog 19 #[.agg y.cs, .agg reZ] w fun e w' => e = .returned (.bool (emptyRw y)) ∧ Below w.heap.size w w' := by
  obtain ⟨k, x, s, ad, n, cap, mn, mx⟩ := y
  exact sameZ0 k x s ad n cap mn mx hn w
set_option maxRecDepth 100000 in
set_option maxHeartbeats 4000000 in
theorem sameMZ0 (k : Int) (r : Rw) (o : List B) (ad : Option Addr) (n cap : Nat) (mn mx : Int) (_hn : n ≤ maxLen) (hrn : r.n ≤ maxLen) (w : World) :
    Calls Tryz.prog 23 #[.agg (Mw.cs ⟨k, r, o, ad, n, cap, mn, mx⟩), .agg mpZ] w fun e w' => e = .returned (.bool (emptyMB k r o n mn mx)) ∧ Below w.heap.size w w' := by
  have HB := hid (show ∀ o1 o2 : Obj, Below w.heap.size w ((w.alloc o1).alloc o2) from fun o1 o2 => ((Below.refl _ w).alloc (Nat.le_refl _) _).alloc (by simp) _)
  have HM := hid (show emptyMB k r o n mn mx = (decide (k = 0) && (emptyRw r && (decide (o = []) && (decide (n = 0) && (decide (mn = 0) && decide (mx = 0)))))) from rfl)
  obtain ⟨b, hb⟩ : ∃ b : Bool, b = emptyMB k r o n mn mx := ⟨_, rfl⟩
  rw [← hb] at HM ⊢
  clear hb
  have hsz0 := fun W => sameZ_any r hrn W
  unfold maxLen at _hn
  by_cases hk : k = 0
  · have hkq : (k == 0) = true := by simpa using hk
    by_cases hre : emptyRw r = true
    · skip
      by_cases hoe : o = []
      · have HOE := hid hoe
        subst hoe
        by_cases hmn : mn = 0
        · have hmq : (mn == 0) = true := by simpa using hmn
          by_cases hmx : mx = 0
          · have hmq2 : (mx == 0) = true := by simpa using hmx
            by_cases hn0 : n = 0
            · have hnq : ((n : Int) == 0) = true := by simp [hn0]
              have HF := hid (show b = true by rw [HM.out, decide_eq_true hk, hre, decide_eq_true rfl, decide_eq_true hn0, decide_eq_true hmn, decide_eq_true hmx]; rfl)
              go_enter Tryz.func23, Tryz.ntmps23
              go_wp2_with (go_at_call 19; refine (hsz0 _).mono ?_; rintro e w2 ⟨rfl, hb2⟩; rw [hre]; have r0 := (hb2.block w.heap.size (by simp; omega)).trans (heap_alloc2_old _ _ _); have r1 := (hb2.block (w.heap.size + 1) (by simp)).trans (heap_alloc2_new _ _ _); have HB2 := hid ((HB.out _ _).trans (hb2.mono (by simp; omega))); obtain ⟨y0, y1, y2, y3, y4, y5, y6, y7, y8, y9, y10, y11, y12, y13⟩ := fourteen_of (r := r) r0; obtain ⟨z0, z1, z2, z3, z4, z5, z6, z7, z8, z9, z10, z11, z12, z13⟩ := fourteen_of (k := 0) (r := Rw.zero) (o := []) (ad := none) (n := 0) (cap := 0) (mn := 0) (mx := 0) r1; clear hb2 r0 r1)
              have hn1 : ¬ (0 : Int) < (n : Int) := by omega
              refine wp_loop_rounds 1 ?_
              rw [rounds_succ]
              go_wp2
              go_ret
              exact ⟨bool_eq HF.out.symm, HB2.out⟩
            · have hnq : ((n : Int) == 0) = false := by rw [beq_eq_false_iff_ne]; omega
              have HF := hid (show b = false by rw [HM.out, decide_eq_false hn0]; simp)
              go_enter Tryz.func23, Tryz.ntmps23
              go_wp2_with (go_at_call 19; refine (hsz0 _).mono ?_; rintro e w2 ⟨rfl, hb2⟩; rw [hre]; have r0 := (hb2.block w.heap.size (by simp; omega)).trans (heap_alloc2_old _ _ _); have r1 := (hb2.block (w.heap.size + 1) (by simp)).trans (heap_alloc2_new _ _ _); have HB2 := hid ((HB.out _ _).trans (hb2.mono (by simp; omega))); obtain ⟨y0, y1, y2, y3, y4, y5, y6, y7, y8, y9, y10, y11, y12, y13⟩ := fourteen_of (r := r) r0; obtain ⟨z0, z1, z2, z3, z4, z5, z6, z7, z8, z9, z10, z11, z12, z13⟩ := fourteen_of (k := 0) (r := Rw.zero) (o := []) (ad := none) (n := 0) (cap := 0) (mn := 0) (mx := 0) r1; clear hb2 r0 r1)
              go_ret
              exact ⟨bool_eq HF.out.symm, HB2.out⟩
          · have hmq2 : (mx == 0) = false := by simpa using hmx
            have HF := hid (show b = false by rw [HM.out, decide_eq_false hmx]; simp)
            go_enter Tryz.func23, Tryz.ntmps23
            go_wp2_with (go_at_call 19; refine (hsz0 _).mono ?_; rintro e w2 ⟨rfl, hb2⟩; rw [hre]; have r0 := (hb2.block w.heap.size (by simp; omega)).trans (heap_alloc2_old _ _ _); have r1 := (hb2.block (w.heap.size + 1) (by simp)).trans (heap_alloc2_new _ _ _); have HB2 := hid ((HB.out _ _).trans (hb2.mono (by simp; omega))); obtain ⟨y0, y1, y2, y3, y4, y5, y6, y7, y8, y9, y10, y11, y12, y13⟩ := fourteen_of (r := r) r0; obtain ⟨z0, z1, z2, z3, z4, z5, z6, z7, z8, z9, z10, z11, z12, z13⟩ := fourteen_of (k := 0) (r := Rw.zero) (o := []) (ad := none) (n := 0) (cap := 0) (mn := 0) (mx := 0) r1; clear hb2 r0 r1)
            go_ret
            exact ⟨bool_eq HF.out.symm, HB2.out⟩
        · have hmq : (mn == 0) = false := by simpa using hmn
          have HF := hid (show b = false by rw [HM.out, decide_eq_false hmn]; simp)
          go_enter Tryz.func23, Tryz.ntmps23
          go_wp2_with (go_at_call 19; refine (hsz0 _).mono ?_; rintro e w2 ⟨rfl, hb2⟩; rw [hre]; have r0 := (hb2.block w.heap.size (by simp; omega)).trans (heap_alloc2_old _ _ _); have r1 := (hb2.block (w.heap.size + 1) (by simp)).trans (heap_alloc2_new _ _ _); have HB2 := hid ((HB.out _ _).trans (hb2.mono (by simp; omega))); obtain ⟨y0, y1, y2, y3, y4, y5, y6, y7, y8, y9, y10, y11, y12, y13⟩ := fourteen_of (r := r) r0; obtain ⟨z0, z1, z2, z3, z4, z5, z6, z7, z8, z9, z10, z11, z12, z13⟩ := fourteen_of (k := 0) (r := Rw.zero) (o := []) (ad := none) (n := 0) (cap := 0) (mn := 0) (mx := 0) r1; clear hb2 r0 r1)
          go_ret
          exact ⟨bool_eq HF.out.symm, HB2.out⟩
      · obtain ⟨hx1, hx2⟩ := str_none hoe
        have HF := hid (show b = false by rw [HM.out, decide_eq_false hoe]; simp)
        go_enter Tryz.func23, Tryz.ntmps23
        go_wp2_with (go_at_call 19; refine (hsz0 _).mono ?_; rintro e w2 ⟨rfl, hb2⟩; rw [hre]; have r0 := (hb2.block w.heap.size (by simp; omega)).trans (heap_alloc2_old _ _ _); have r1 := (hb2.block (w.heap.size + 1) (by simp)).trans (heap_alloc2_new _ _ _); have HB2 := hid ((HB.out _ _).trans (hb2.mono (by simp; omega))); obtain ⟨y0, y1, y2, y3, y4, y5, y6, y7, y8, y9, y10, y11, y12, y13⟩ := fourteen_of (r := r) r0; obtain ⟨z0, z1, z2, z3, z4, z5, z6, z7, z8, z9, z10, z11, z12, z13⟩ := fourteen_of (k := 0) (r := Rw.zero) (o := []) (ad := none) (n := 0) (cap := 0) (mn := 0) (mx := 0) r1; clear hb2 r0 r1)
        go_ret
        exact ⟨bool_eq HF.out.symm, HB2.out⟩
    · rw [Bool.not_eq_true] at hre
      have HF := hid (show b = false by rw [HM.out, hre]; simp)
      go_enter Tryz.func23, Tryz.ntmps23
      go_wp2_with (go_at_call 19; refine (hsz0 _).mono ?_; rintro e w2 ⟨rfl, hb2⟩; rw [hre]; have r0 := (hb2.block w.heap.size (by simp; omega)).trans (heap_alloc2_old _ _ _); have r1 := (hb2.block (w.heap.size + 1) (by simp)).trans (heap_alloc2_new _ _ _); have HB2 := hid ((HB.out _ _).trans (hb2.mono (by simp; omega))); obtain ⟨y0, y1, y2, y3, y4, y5, y6, y7, y8, y9, y10, y11, y12, y13⟩ := fourteen_of (r := r) r0; obtain ⟨z0, z1, z2, z3, z4, z5, z6, z7, z8, z9, z10, z11, z12, z13⟩ := fourteen_of (k := 0) (r := Rw.zero) (o := []) (ad := none) (n := 0) (cap := 0) (mn := 0) (mx := 0) r1; clear hb2 r0 r1)
      go_ret
      exact ⟨bool_eq HF.out.symm, HB2.out⟩
  · have hkq : (k == 0) = false := by simpa using hk
    have HF := hid (show b = false by rw [HM.out, decide_eq_false hk]; simp)
    go_enter Tryz.func23, Tryz.ntmps23
    go_wp2_with (go_at_call 19; refine (hsz0 _).mono ?_; rintro e w2 ⟨rfl, hb2⟩; rw [hre]; have r0 := (hb2.block w.heap.size (by simp; omega)).trans (heap_alloc2_old _ _ _); have r1 := (hb2.block (w.heap.size + 1) (by simp)).trans (heap_alloc2_new _ _ _); have HB2 := hid ((HB.out _ _).trans (hb2.mono (by simp; omega))); obtain ⟨y0, y1, y2, y3, y4, y5, y6, y7, y8, y9, y10, y11, y12, y13⟩ := fourteen_of (r := r) r0; obtain ⟨z0, z1, z2, z3, z4, z5, z6, z7, z8, z9, z10, z11, z12, z13⟩ := fourteen_of (k := 0) (r := Rw.zero) (o := []) (ad := none) (n := 0) (cap := 0) (mn := 0) (mx := 0) r1; clear hb2 r0 r1)
    go_ret
    exact ⟨bool_eq HF.out.symm, HB.out _ _⟩
theorem sameMZ_any (y : Mw) (hn : y.n ≤ maxLen) (hrn : y.r.n ≤ maxLen) (w : World) :
    Calls Tryz.prog 23 #[.agg y.cs, .agg mpZ] w fun e w' => e = .returned (.bool (emptyMw y)) ∧ Below w.heap.size w w' := by
  obtain ⟨k, r, o, ad, n, cap, mn, mx⟩ := y
  exact sameMZ0 k r o ad n cap mn mx hn hrn w
end Go.Proofs.YtfljcfdfgojdoaaGreatDoor.Sh.Rf

namespace Go.Proofs.YtfljcfdfgojdoaaGreatDoor.Sh.Rf
open Go.RowKit Go.Lib Go.Proofs.YtfljcfdfgojdoaaGreatDoor Go.Proofs.YtfljcfdfgojdoaaGreatDoor.Sh

/-- in a map, all expressions have few parts -/
inductive NdMp : Mp → Prop where
  | mk (k : Int) (r : Re) (o : List B) (ps : List Mp) (mn mx : Int) (h : nodes r < 1000) (ho : o.length ≤ 600) (hp : ∀ p, p ∈ ps → NdMp p) : NdMp (.mk k r o ps mn mx)
theorem NdMp.re {k : Int} {r : Re} {o : List B} {ps : List Mp} {mn mx : Int} (h : NdMp (.mk k r o ps mn mx)) : nodes r < 1000 := by cases h; assumption
theorem NdMp.out {k : Int} {r : Re} {o : List B} {ps : List Mp} {mn mx : Int} (h : NdMp (.mk k r o ps mn mx)) : o.length ≤ 600 := by cases h; assumption
theorem NdMp.part {k : Int} {r : Re} {o : List B} {ps : List Mp} {mn mx : Int} (h : NdMp (.mk k r o ps mn mx)) {p : Mp} (hp : p ∈ ps) : NdMp p := by cases h with | mk _ _ _ _ _ _ h1 h2 h3 => exact h3 p hp
def SzNd (d : Nat) (r : Mp) (w : World) (e : Ending) (w' : World) : Prop := ∃ n : Nat, e = .returned (.int .i64 n) ∧ n ≤ 1000 * (213 - d) ∧ (n < 1000 → mnodes r ≤ n ∧ NdMp r) ∧ Below w.heap.size w w'
set_option maxRecDepth 100000 in
set_option maxHeartbeats 2000000 in
theorem msize_nd : ∀ (N : Nat) (r : Mp), SizeOf.sizeOf r < N → ∀ (d : Nat), d ≤ 211 → ∀ (F : Nat → Prop) (y : Mw) (w : World), (∀ g, F g → g < w.heap.size) → MpG F w r y →
    Calls Tryz.prog 49 #[.agg y.cs, .int .i64 d] w (SzNd d r w) := by
  intro N
  induction N with
  | zero => intro r h; omega
  | succ N ih =>
    intro r hN d hd F y w hFw h
    obtain ⟨k, re, o, ps, mn, mx⟩ := r
    obtain ⟨yk, ⟨rk, rx, rs, ra, rl, rc, rn, rm⟩, yo, ad, yn, cap, ymn, ymx⟩ := y
    obtain ⟨h1, h2, h3, h4, h5, hre, hlen, ho⟩ := h.open
    dsimp only at h1 h2 h3 h4 h5 hre ho
    subst h1 h2 h4 h5 h3
    have hsub : ∀ p ∈ ps, SizeOf.sizeOf p < N := fun p hp => by
      have h1 := List.sizeOf_lt_of_mem hp
      simp only [Mp.mk.sizeOf_spec] at hN
      omega
    have IH := hid ih
    have HSUB := hid hsub
    have HFW := hid hFw
    have HO := hid ho
    have HND := hid (show mnodes (.mk yk re yo ps ymn ymx) = 1 + mnodesL ps by rw [mnodes])
    unfold maxLen at hlen
    have HRE := hid hre
    clear h ih hsub hN hFw ho hre
    have hb0 : Below w.heap.size w (w.alloc (.cells (mpC yk rk rx rs (.slice ra rl rc) rn rm yo (.slice ad ps.length cap) ymn ymx) 36)) := (Below.refl _ w).alloc (Nat.le_refl _) _
    have hblk : (w.alloc (.cells (mpC yk rk rx rs (.slice ra rl rc) rn rm yo (.slice ad ps.length cap) ymn ymx) 36)).heap[w.heap.size]? = some (.cells (mpC yk rk rx rs (.slice ra rl rc) rn rm yo (.slice ad ps.length cap) ymn ymx) 36 (0, 0)) := heap_alloc_new _ _
    have hsz0 : (w.alloc (.cells (mpC yk rk rx rs (.slice ra rl rc) rn rm yo (.slice ad ps.length cap) ymn ymx) 36)).heap.size = w.heap.size + 1 := by simp
    have HBK := hid hblk
    have HB0 := hid hb0
    have HSZ0 := hid hsz0
    clear hblk hb0 hsz0
    by_cases hdd : d = 211
    · subst hdd
      go_enter Tryz.func49, Tryz.ntmps49
      go_wp2
      go_ret
      exact ⟨1000, rfl, by omega, fun h => by omega, HB0.out⟩
    · have hd2 : ¬ ((210 : Int) < (d : Int)) := by omega
      have hfew := few_re (w := w.alloc (.cells (mpC yk rk rx rs (.slice ra rl rc) rn rm yo (.slice ad ps.length cap) ymn ymx) 36)) (r := re) (cs := reC rk rx rs (.slice ra rl rc) rn rm) (F := F) (fun g hg => by have := HFW.out g hg; simp; omega) (HRE.out.below HFW.out HB0.out)
      have hfew' := hid hfew
      clear hfew
      go_enter Tryz.func49, Tryz.ntmps49
      go_upto_region 2 with fail
      go_upto_if 20 with (go_at_call 15; refine hfew'.out.mono ?_; rintro e w1 ⟨bf, rfl, hbf, hb1⟩; have hbx := (hb1.block w.heap.size (by rw [HSZ0.out]; omega)).trans HBK.out; have HBX := hid hbx; have c10 := cell_blk (i := 10) hbx rfl; have HB1 := hid hb1; have HS1 := hid (show w.heap.size + 1 ≤ w1.heap.size by have := hb1.size; rw [HSZ0.out] at this; exact this); have HB01 := hid (HB0.out.trans (hb1.mono (by rw [HSZ0.out]; omega))); have HBF0 := hid hbf; clear hb1 hbx hbf)
      · have HBF := hid (show nodes re < 1000 from HBF0.out (by assumption))
        by_cases hol : (600 : Int) < (yo.length : Int)
        · rw [decide_eq_true hol]
          go_wp2
          go_ret
          exact ⟨1000, rfl, by omega, fun h => by omega, HB01.out⟩
        · rw [decide_eq_false hol]
          clear c10
          go_wp2
          go_loopw [5, 6] (fun vn vi wr => ∃ i n : Nat, i ≤ ps.length ∧ vi = .int .i64 i ∧ vn = .int .i64 n ∧ n ≤ 1000 * (213 - d) ∧ 1 ≤ n ∧ Hid (n < 1000 → 1 + mnodesL (ps.take i) ≤ n ∧ ∀ p, p ∈ ps.take i → NdMp p) ∧ Below (w.heap.size + 1) w1 wr) (fun _ vi _ => ps.length - (RowKit.intOf vi).toNat)
          case atStart => exact ⟨0, 1, Nat.zero_le _, rfl, rfl, by omega, Nat.le_refl _, by rw [List.take_zero, mnodesL]; exact fun _ => ⟨Nat.le_refl _, fun p hp => by cases hp⟩, Below.refl _ _⟩
          case round =>
            obtain ⟨i, n, hi, rfl, rfl, hn, hn1, HN, hb⟩ := hrel
            have hwr : Below w.heap.size w wr := HB01.out.trans (hb.mono (by omega))
            have hsz : w.heap.size + 1 ≤ wr.heap.size := by have := hb.size; have := HS1.out; omega
            have hbx := (hb.block w.heap.size (by omega)).trans HBX.out
            have c6 := cell_blk (i := 11) hbx rfl
            clear hbx
            have HRET := hid (show n < 1000 → i = ps.length → SzNd d (.mk yk re yo ps ymn ymx) w (.returned (.int .i64 n)) wr from fun _ he => ⟨n, rfl, hn, fun hl => by
              have := HN.out hl
              rw [he, List.take_length] at this
              refine ⟨?_, .mk _ _ _ _ _ _ HBF.out (by omega) this.2⟩
              rw [HND.out]; exact this.1, hwr⟩)
            have HRET2 := hid (show ¬ n < 1000 → SzNd d (.mk yk re yo ps ymn ymx) w (.returned (.int .i64 n)) wr from fun hl => ⟨n, rfl, hn, fun h => absurd h hl, hwr⟩)
            by_cases hlt : i < ps.length
            · have hgi : (i : Int) < (ps.length : Int) := by omega
              by_cases hn0 : n < 1000
              · have hni : (n : Int) < 1000 := by omega
                obtain ⟨g, off, rfl, hgF, hparts⟩ := HO.out (by rintro rfl; simp at hlt)
                obtain ⟨z, hr1, hc⟩ := hparts.at (List.getElem?_eq_getElem hlt)
                obtain ⟨a0, a1, a2, a3, a4, a5, a6, a7, a8, a9, a10, a11, a12, a13⟩ := elem14_of (W := wr) (g := g) (o := off + i * 14) (y := z) fun j v hv => (hwr.cell (p := ⟨g, off + i * 14 + j, none⟩) (HFW.out g hgF)).trans (hc j v hv)
                have hcall := IH.out _ (HSUB.out _ (List.getElem_mem hlt)) (d + 1) (by omega) F _ wr (fun g hg => by have := HFW.out g hg; omega) (hr1.below HFW.out hwr)
                have hcd : (((d + 1 : Nat)) : Int) = (d : Int) + 1 := by omega
                rw [hcd] at hcall
                have HTS := hid (take_snoc hlt)
                have HNS := hid (mnodesL_snoc (ps.take i) ps[i])
                clear hparts hc hr1 hcd
                go_wp2_with (go_at_call 49; refine hcall.mono ?_; clear hcall; rintro e w3 ⟨n3, rfl, hn3, hn3', hb3⟩; have HN3 := hid hn3'; clear hn3')
                go_roundw
                case rel => exact ⟨i + 1, n + n3, by omega, by go_num, by go_num, by omega, by omega, hid (fun hl => by
                  have h1 := HN.out hn0
                  have h2 := HN3.out (by omega)
                  rw [HTS.out, HNS.out]
                  refine ⟨by omega, fun p hp => ?_⟩
                  rcases List.mem_append.1 hp with hp | hp
                  · exact h1.2 p hp
                  · rw [List.mem_singleton.1 hp]; exact h2.2), hb.trans (hb3.mono (by omega))⟩
                case measure => simp [RowKit.intOf]; omega
              · have hni : ¬ (n : Int) < 1000 := by omega
                go_wp2
                go_ret
                exact HRET2.out hn0
            · obtain rfl : i = ps.length := by omega
              go_wp2
              go_ret
              by_cases hn0 : n < 1000
              · exact HRET.out hn0 (by first | rfl | trivial)
              · exact HRET2.out hn0
      · go_wp2
        go_ret
        exact ⟨1000, rfl, by omega, fun h => by omega, HB01.out⟩
set_option maxRecDepth 100000 in
set_option maxHeartbeats 1000000 in
theorem nd_mp {F : Nat → Prop} {r : Mp} {y : Mw} {w : World} (hFw : ∀ g, F g → g < w.heap.size) (hG : MpG F w r y) : Calls Tryz.prog 16 #[.agg y.cs] w (FewP (mnodes r < 1000 ∧ NdMp r) w) := by
  have hb0 : Below w.heap.size w (w.alloc (.cells y.cs 36)) := (Below.refl _ w).alloc (Nat.le_refl _) _
  have hsz : (w.alloc (.cells y.cs 36)).heap.size = w.heap.size + 1 := by simp
  have hc := msize_nd _ r (Nat.lt_succ_self _) 0 (by decide) F y (w.alloc (.cells y.cs 36)) (fun g hg => by have := hFw g hg; omega) (hG.below hFw hb0)
  have HB := hid hb0
  clear hG hFw hb0
  go_enter Tryz.func16, Tryz.ntmps16
  go_wp2_with (go_at_call 49; refine hc.mono ?_; clear hc; rintro e w2 ⟨n2, rfl, _, hn2, hb2⟩; have HN2 := hid hn2; clear hn2)
  go_ret
  exact FewP.mk _ (fun h => by
    have h1 : (n2 : Int) < 1000 := by simpa using h
    have := HN2.out (by omega)
    exact ⟨by omega, this.2⟩) (HB.out.trans (hb2.mono (by omega)))
end Go.Proofs.YtfljcfdfgojdoaaGreatDoor.Sh.Rf
