/-
  parse.right as it is, all kinds. (Printed by genRt.py.)
  parse.Check, rightRe, mayBeName, emptyRe, emptyMap as they are. (Printed by genEm.py.)
  Plain: what parse.right tells, and what may stand in an expression.
  emptyMap, show.mayBeName as they are. (Printed by genEm2.py.)
-/
import Derived.Test.YtfljcfdfgojdoaaGreatDoorFa20
import Derived.Test.YtfljcfdfgojdoaaGreatDoorFa21
namespace Go.Proofs.YtfljcfdfgojdoaaGreatDoor.Sh
open Go.RowKit Go.Lib Go.Proofs.YtfljcfdfgojdoaaGreatDoor
set_option maxRecDepth 100000 in
set_option maxHeartbeats 8000000 in
theorem right_other (N : Nat) {k : Int} (hk : ∀ j : Nat, j < 8 → k ≠ j + 1) (x : List B) (s : Se) (ps : List Re) (mn mx : Int) : RightAt (N + 1) (.mk k x s ps mn mx) := by
  intro F cs w hFw h
  obtain ⟨ad, cap, rfl, hlen, hps⟩ := h.open
  have k1 : ¬ k = 1 := hk 0 (by decide)
  have k2 : ¬ k = 2 := hk 1 (by decide)
  have k3 : ¬ k = 3 := hk 2 (by decide)
  have k4 : ¬ k = 4 := hk 3 (by decide)
  have k5 : ¬ k = 5 := hk 4 (by decide)
  have k6 : ¬ k = 6 := hk 5 (by decide)
  have k7 : ¬ k = 7 := hk 6 (by decide)
  have k8 : ¬ k = 8 := hk 7 (by decide)
  have HF := hid (show rightB (N + 1) (.mk k x s ps mn mx) = false by
    rw [rightB_succ]
    unfold nodeB
    rw [if_neg k1, if_neg k2, if_neg k3, if_neg (by omega), if_neg k7, if_neg k8]; rfl)
  have q1 : (k == 1) = false := by simpa using k1
  have q2 : (k == 2) = false := by simpa using k2
  have q3 : (k == 3) = false := by simpa using k3
  have q4 : (k == 4) = false := by simpa using k4
  have q5 : (k == 5) = false := by simpa using k5
  have q6 : (k == 6) = false := by simpa using k6
  have q7 : (k == 7) = false := by simpa using k7
  have q8 : (k == 8) = false := by simpa using k8
  have HB := hid (show ∀ o1 o2 : Obj, Below w.heap.size w ((w.alloc o1).alloc o2) from fun o1 o2 => ((Below.refl _ w).alloc (Nat.le_refl _) _).alloc (by simp) _)
  clear h hps hFw hk k1 k2 k3 k4 k5 k6 k7 k8 hlen
  go_enter Tryz.func54, Tryz.ntmps54
  go_wp2
  go_ret
  exact ⟨bool_eq HF.out.symm, HB.out _ _⟩
/-- all texts in an expression are of a bearable length -/
inductive TxRe : Re → Prop where
  | mk (k : Int) (x : List B) (s : Se) (ps : List Re) (mn mx : Int) (h : x.length ≤ 140737488351232) (hp : ∀ p, p ∈ ps → TxRe p) : TxRe (.mk k x s ps mn mx)
theorem TxRe.text {k : Int} {x : List B} {s : Se} {ps : List Re} {mn mx : Int} (h : TxRe (.mk k x s ps mn mx)) : x.length ≤ 140737488351232 := by cases h; assumption
theorem TxRe.part {k : Int} {x : List B} {s : Se} {ps : List Re} {mn mx : Int} (h : TxRe (.mk k x s ps mn mx)) {p : Re} (hp : p ∈ ps) : TxRe p := by cases h with | mk _ _ _ _ _ _ h1 h2 => exact h2 p hp
theorem right_any : ∀ (n : Nat) (r : Re), deepB n r = false → TxRe r → RightAt n r
  | 0, r, h, _ => by simp [deepB] at h
  | n + 1, .mk k x s ps mn mx, h, ht => by
    have hd : ∀ p ∈ ps, deepB n p = false := fun p hp => by
      have := List.any_eq_false.1 (show ps.any (deepB n) = false from h) p hp
      rwa [Bool.not_eq_true] at this
    have ih : ∀ p ∈ ps, RightAt n p := fun p hp => right_any n p (hd p hp) (ht.part hp)
    have hx := ht.text
    by_cases hk : ∀ j : Nat, j < 8 → k ≠ j + 1
    · exact right_other n hk x s ps mn mx
    · have hk' : k = 1 ∨ k = 2 ∨ k = 3 ∨ k = 4 ∨ k = 5 ∨ k = 6 ∨ k = 7 ∨ k = 8 := by
        refine Classical.byContradiction fun hn => hk fun j hj e => hn ?_
        omega
      rcases hk' with rfl | rfl | rfl | rfl | rfl | rfl | rfl | rfl
      · exact right_k1 n x s ps mn mx hx ih
      · exact right_k2 n x s ps mn mx hx ih
      · exact right_k3 n x s ps mn mx hx ih
      · exact right_k4 n x s ps mn mx hx ih
      · exact right_k5 n x s ps mn mx hx ih
      · exact right_k6 n x s ps mn mx hx ih
      · exact right_k7 n x s ps mn mx hx ih
      · exact right_k8 n x s ps mn mx hx ih
end Go.Proofs.YtfljcfdfgojdoaaGreatDoor.Sh

namespace Go.Proofs.YtfljcfdfgojdoaaGreatDoor.Sh
open Go.RowKit Go.Lib Go.Proofs.YtfljcfdfgojdoaaGreatDoor

/-- what Check tells -/
def checkM (r : Re) : Int := if deepB 200 r = true then 8 else if rightB 200 r = true then 0 else 1
set_option maxRecDepth 100000 in
set_option maxHeartbeats 1000000 in
theorem check_any {F : Nat → Prop} {r : Re} {cs : Array Value} {w : World} (hFw : ∀ g, F g → g < w.heap.size) (h : ReG F w r cs) (ht : TxRe r) :
    Calls Tryz.prog 20 #[.agg cs] w fun e w' => e = .returned (.int .i64 (checkM r)) ∧ Below w.heap.size w w' := by
  obtain ⟨k, x, s, ad, n, cap, mn, mx, rfl⟩ := h.cells
  have hb0 : Below w.heap.size w (w.alloc (.cells (reC k x s (.slice ad n cap) mn mx) 33)) := (Below.refl _ w).alloc (Nat.le_refl _) _
  have hsz : (w.alloc (.cells (reC k x s (.slice ad n cap) mn mx) 33)).heap.size = w.heap.size + 1 := by simp
  have hblk : (w.alloc (.cells (reC k x s (.slice ad n cap) mn mx) 33)).heap[w.heap.size]? = some (.cells (reC k x s (.slice ad n cap) mn mx) 33 (0, 0)) := heap_alloc_new _ _
  have hd := deep_any 200 r (by decide) F _ (w.alloc (.cells (reC k x s (.slice ad n cap) mn mx) 33)) (fun g hg => by have := hFw g hg; omega) (h.below hFw hb0)
  obtain ⟨c0, c1, c2, c3, c4, c5, c6, c7, c8⟩ := nine_of hblk
  have HB := hid hb0
  have HBK := hid hblk
  have HR := hid (show deepB 200 r = false → ∀ W : World, Below w.heap.size w W → Calls Tryz.prog 54 #[.agg (reC k x s (.slice ad n cap) mn mx)] W fun e w' => e = .returned (.bool (rightB 200 r)) ∧ Below W.heap.size W w' from fun hf W hb => right_any 200 r hf ht F _ W (fun g hg => Nat.lt_of_lt_of_le (hFw g hg) hb.size) (h.below hFw hb))
  have HC := hid (show checkM r = _ from rfl)
  clear h ht hFw hb0 hblk
  by_cases hdp : deepB 200 r = true
  · rw [hdp] at hd
    have HC2 := hid (HC.out.trans (if_pos hdp))
    clear hdp
    go_enter Tryz.func20, Tryz.ntmps20
    go_wp2_with (go_at_call 53; refine hd.mono ?_; clear hd; rintro e w2 ⟨rfl, hb2⟩)
    go_ret
    rw [HC2.out]
    exact ⟨rfl, HB.out.trans (hb2.mono (by omega))⟩
  · rw [Bool.not_eq_true] at hdp
    rw [hdp] at hd
    have HC2 := hid (HC.out.trans (if_neg (by rw [hdp]; simp)))
    have hrg := HR.out hdp
    clear hdp
    by_cases hrt : rightB 200 r = true
    · rw [hrt] at hrg
      have HC3 := hid (HC2.out.trans (if_pos hrt))
      clear hrt
      go_enter Tryz.func20, Tryz.ntmps20
      go_wp2_with (first | (go_at_call 53; refine hd.mono ?_; clear hd; rintro e w2 ⟨rfl, hb2⟩; have HB2 := hid (HB.out.trans (hb2.mono (by omega))); clear c0 c1 c2 c3 c4 c5 c6 c7 c8; obtain ⟨c0, c1, c2, c3, c4, c5, c6, c7, c8⟩ := nine_of ((hb2.block w.heap.size (by omega)).trans HBK.out)) | (go_at_call 54; refine (hrg _ HB2.out).mono ?_; clear hrg; rintro e w3 ⟨rfl, hb3⟩))
      go_ret
      rw [HC3.out]
      exact ⟨rfl, HB2.out.trans (hb3.mono HB2.out.size)⟩
    · rw [Bool.not_eq_true] at hrt
      rw [hrt] at hrg
      have HC3 := hid (HC2.out.trans (if_neg (by rw [hrt]; simp)))
      clear hrt
      go_enter Tryz.func20, Tryz.ntmps20
      go_wp2_with (first | (go_at_call 53; refine hd.mono ?_; clear hd; rintro e w2 ⟨rfl, hb2⟩; have HB2 := hid (HB.out.trans (hb2.mono (by omega))); clear c0 c1 c2 c3 c4 c5 c6 c7 c8; obtain ⟨c0, c1, c2, c3, c4, c5, c6, c7, c8⟩ := nine_of ((hb2.block w.heap.size (by omega)).trans HBK.out)) | (go_at_call 54; refine (hrg _ HB2.out).mono ?_; clear hrg; rintro e w3 ⟨rfl, hb3⟩))
      go_ret
      rw [HC3.out]
      exact ⟨rfl, HB2.out.trans (hb3.mono HB2.out.size)⟩
def okB (r : Re) : Bool := checkM r == 0
set_option maxRecDepth 100000 in
set_option maxHeartbeats 1000000 in
theorem rightRe_any {F : Nat → Prop} {r : Re} {cs : Array Value} {w : World} (hFw : ∀ g, F g → g < w.heap.size) (h : ReG F w r cs) (ht : TxRe r) :
    Calls Tryz.prog 83 #[.agg cs] w fun e w' => e = .returned (.bool (okB r)) ∧ Below w.heap.size w w' := by
  obtain ⟨k, x, s, ad, n, cap, mn, mx, rfl⟩ := h.cells
  have hb0 : Below w.heap.size w (w.alloc (.cells (reC k x s (.slice ad n cap) mn mx) 33)) := (Below.refl _ w).alloc (Nat.le_refl _) _
  have hsz : (w.alloc (.cells (reC k x s (.slice ad n cap) mn mx) 33)).heap.size = w.heap.size + 1 := by simp
  have hblk : (w.alloc (.cells (reC k x s (.slice ad n cap) mn mx) 33)).heap[w.heap.size]? = some (.cells (reC k x s (.slice ad n cap) mn mx) 33 (0, 0)) := heap_alloc_new _ _
  have hd := check_any (w := w.alloc (.cells (reC k x s (.slice ad n cap) mn mx) 33)) (fun g hg => by have := hFw g hg; omega) (h.below hFw hb0) ht
  obtain ⟨c0, c1, c2, c3, c4, c5, c6, c7, c8⟩ := nine_of hblk
  have HB := hid hb0
  have HO := hid (show okB r = (checkM r == 0) from rfl)
  clear h ht hFw hb0 hblk
  generalize checkM r = c at *
  go_enter Tryz.func83, Tryz.ntmps83
  go_wp2_with (go_at_call 20; refine hd.mono ?_; clear hd; rintro e w2 ⟨rfl, hb2⟩)
  go_ret
  exact ⟨bool_eq HO.out.symm, HB.out.trans (hb2.mono (by omega))⟩

/-- is nothing in an expression? -/
def emptyB (k : Int) (x : List B) (s : Se) (n : Nat) (mn mx : Int) : Bool := decide (k = 0) && (decide (x = []) && (noneB s && (decide (n = 0) && (decide (mn = 0) && decide (mx = 0)))))
set_option maxRecDepth 100000 in
set_option maxHeartbeats 4000000 in
theorem emptyRe_any (k : Int) (x : List B) (s : Se) (ad : Option Addr) (n cap : Nat) (mn mx : Int) (_hn : n ≤ maxLen) (w : World) :
    Calls Tryz.prog 84 #[.agg (reC k x s (.slice ad n cap) mn mx)] w fun e w' => e = .returned (.bool (emptyB k x s n mn mx)) ∧ Below w.heap.size w w' := by
  have HB := hid (show ∀ o : Obj, Below w.heap.size w (w.alloc o) from fun o => (Below.refl _ w).alloc (Nat.le_refl _) o)
  have HM := hid (show emptyB k x s n mn mx = (decide (k = 0) && (decide (x = []) && (noneB s && (decide (n = 0) && (decide (mn = 0) && decide (mx = 0)))))) from rfl)
  have e24 := eq24
  have n1 : Se.none.a = 0 := rfl
  have n2 : Se.none.b = 0 := rfl
  have n3 : Se.none.c = 0 := rfl
  have n4 : Se.none.d = 0 := rfl
  unfold maxLen at _hn

  by_cases hk : k = 0
  · have hkq : (k == 0) = true := by simpa using hk
    by_cases hxe : x = []
    · have HXE := hid hxe
      subst hxe
      by_cases hss : noneB s = true
      · have HSS := hid hss
        obtain rfl := noneB_eq hss
        by_cases hn0 : n = 0
        · have hnq : ((n : Int) == 0) = true := by simp [hn0]
          by_cases hmn : mn = 0
          · have hmq : (mn == 0) = true := by simpa using hmn
            by_cases hmx : mx = 0
            · have hmq2 : (mx == 0) = true := by simpa using hmx
              have HF := hid (show emptyB k [] Se.none n mn mx = true by rw [HM.out, decide_eq_true hk, decide_eq_true rfl, HSS.out, decide_eq_true hn0, decide_eq_true hmn, decide_eq_true hmx]; rfl)
              clear hk hn0 hmn hmx
              go_enter Tryz.func84, Tryz.ntmps84
              go_wp2
              go_ret
              exact ⟨bool_eq HF.out.symm, HB.out _⟩
            · have hmq2 : (mx == 0) = false := by simpa using hmx
              have HF := hid (show emptyB k [] Se.none n mn mx = false by rw [HM.out, decide_eq_false hmx]; simp)
              clear hk hn0 hmn hmx
              go_enter Tryz.func84, Tryz.ntmps84
              go_wp2
              go_ret
              exact ⟨bool_eq HF.out.symm, HB.out _⟩
          · have hmq : (mn == 0) = false := by simpa using hmn
            have HF := hid (show emptyB k [] Se.none n mn mx = false by rw [HM.out, decide_eq_false hmn]; simp)
            clear hk hn0 hmn
            go_enter Tryz.func84, Tryz.ntmps84
            go_wp2
            go_ret
            exact ⟨bool_eq HF.out.symm, HB.out _⟩
        · have hnq : ((n : Int) == 0) = false := by rw [beq_eq_false_iff_ne]; omega
          have HF := hid (show emptyB k [] Se.none n mn mx = false by rw [HM.out, decide_eq_false hn0]; simp)
          clear hk hn0
          go_enter Tryz.func84, Tryz.ntmps84
          go_wp2
          go_ret
          exact ⟨bool_eq HF.out.symm, HB.out _⟩
      · have hsx : (s.a == 0 && s.b == 0 && s.c == 0 && s.d == 0) = false := by have := hss; rw [Bool.not_eq_true] at this; exact this
        have HF := hid (show emptyB k [] s n mn mx = false by rw [HM.out, (by rw [Bool.not_eq_true] at hss; exact hss : noneB s = false)]; simp)
        clear hk
        go_enter Tryz.func84, Tryz.ntmps84
        go_wp2
        go_ret
        exact ⟨bool_eq HF.out.symm, HB.out _⟩
    · obtain ⟨hx1, hx2⟩ := str_none hxe
      have HF := hid (show emptyB k x s n mn mx = false by rw [HM.out, decide_eq_false hxe]; simp)
      clear hk hxe
      go_enter Tryz.func84, Tryz.ntmps84
      go_wp2
      go_ret
      exact ⟨bool_eq HF.out.symm, HB.out _⟩
  · have hkq : (k == 0) = false := by simpa using hk
    have HF := hid (show emptyB k x s n mn mx = false by rw [HM.out, decide_eq_false hk]; simp)
    clear hk
    go_enter Tryz.func84, Tryz.ntmps84
    go_wp2
    go_ret
    exact ⟨bool_eq HF.out.symm, HB.out _⟩

end Go.Proofs.YtfljcfdfgojdoaaGreatDoor.Sh

namespace Go.Proofs.YtfljcfdfgojdoaaGreatDoor.Sh
open Go.RowKit Go.Lib Go.Proofs.YtfljcfdfgojdoaaGreatDoor

theorem nameOk_iff {x : List B} : nameOk x = true ↔ NameOk ⟨x.toArray⟩ := by
  have hx : (ByteArray.mk x.toArray).toList = x := by rw [ByteArray.toList_eq]
  have hs : sfx ⟨x.toArray⟩ 0 = x := rfl
  unfold nameOk NameOk
  rw [hx, hs]
  simp only [Bool.and_eq_true, decide_eq_true_eq, beq_iff_eq, Bool.not_eq_true']
theorem name_len {x : List B} (h : NameOk ⟨x.toArray⟩) : x.length ≤ 31 := by
  obtain ⟨c, r, rfl, hc, hw, _⟩ := name_of h
  obtain ⟨h1, _⟩ := h
  have hs : sfx ⟨(c :: r).toArray⟩ 0 = c :: r := rfl
  rw [hs, nextL_cons (letter_white hc)] at h1
  unfold nextAt at h1
  have ht : tokenL (c :: r) = nameL (c :: r) := by
    unfold tokenL
    simp only
    rw [if_pos hc]
  rw [ht] at h1
  have hn : nameLen (c :: r) = (c :: r).length := by unfold nameLen; rw [hw]
  unfold nameL at h1
  rw [hn] at h1
  by_cases hl : (31 : Int) < ((c :: r).length : Int)
  · rw [if_pos hl] at h1
    simp at h1
  · omega
theorem oftB_iff {a b : Int} : oftB a b = true ↔ (b = -1 ∧ (a = 0 ∨ a = 1)) ∨ (b ≠ -1 ∧ 0 ≤ a ∧ a ≤ b ∧ b ≤ 64) := by
  unfold oftB
  by_cases h : b = -1
  · rw [if_pos h]
    simp only [Bool.or_eq_true, decide_eq_true_eq]
    omega
  · rw [if_neg h]
    simp only [Bool.and_eq_true, decide_eq_true_eq]
    omega
theorem noneB_none : noneB Se.none = true := rfl
theorem node_of {k : Int} {x : List B} {s : Se} {n : Nat} {mn mx : Int} (h : nodeB k x s n mn mx = true) : Node k x s n mn mx := by
  unfold nodeB at h
  split at h
  · rename_i hk
    simp only [Bool.and_eq_true, decide_eq_true_eq] at h
    obtain ⟨h1, h2, rfl, rfl, rfl⟩ := h
    obtain rfl := noneB_eq h2
    subst hk
    exact .text x h1
  · split at h
    · rename_i hk
      simp only [Bool.and_eq_true, decide_eq_true_eq] at h
      obtain ⟨rfl, rfl, rfl, rfl⟩ := h
      subst hk
      exact .set s
    · split at h
      · rename_i hk
        simp only [Bool.and_eq_true, decide_eq_true_eq] at h
        obtain ⟨h1, h2, rfl, rfl, rfl⟩ := h
        obtain rfl := noneB_eq h2
        subst hk
        have hn := nameOk_iff.1 h1
        exact .name x hn (name_len hn)
      · split at h
        · rename_i hk
          simp only [Bool.and_eq_true, decide_eq_true_eq] at h
          obtain ⟨h1, rfl, h2, rfl, rfl⟩ := h
          obtain rfl := noneB_eq h2
          rcases hk with rfl | rfl | rfl
          · exact .cat n h1
          · exact .alt n h1
          · exact .and n h1
        · split at h
          · rename_i hk
            simp only [Bool.and_eq_true, decide_eq_true_eq] at h
            obtain ⟨rfl, rfl, h2, rfl, rfl⟩ := h
            obtain rfl := noneB_eq h2
            subst hk
            exact .not
          · split at h
            · rename_i hk
              simp only [Bool.and_eq_true, decide_eq_true_eq] at h
              obtain ⟨rfl, h1, rfl, h2⟩ := h
              obtain rfl := noneB_eq h2
              subst hk
              exact .rep mn mx (oftB_iff.1 h1)
            · cases h
theorem node_to {k : Int} {x : List B} {s : Se} {n : Nat} {mn mx : Int} (h : Node k x s n mn mx) : nodeB k x s n mn mx = true := by
  cases h with
  | text x h => unfold nodeB; simp [noneB_none, h]
  | set s => unfold nodeB; simp
  | name x h hx => unfold nodeB; simp [noneB_none, nameOk_iff.2 h]
  | cat n h => unfold nodeB; simp [noneB_none, h]
  | alt n h => unfold nodeB; simp [noneB_none, h]
  | and n h => unfold nodeB; simp [noneB_none, h]
  | not => unfold nodeB; simp [noneB_none]
  | rep a b h => unfold nodeB; simp [noneB_none, oftB_iff.2 h]
theorem okRe_of : ∀ {n : Nat} {r : Re}, rightB n r = true → OkRe n r
  | 0, r, h => by cases h
  | n + 1, .mk k x s ps mn mx, h => by
    rw [rightB_succ, Bool.and_eq_true] at h
    unfold OkRe
    exact ⟨node_of h.1, fun p hp => okRe_of (List.all_eq_true.1 h.2 p hp)⟩
theorem okRe_to : ∀ {n : Nat} {r : Re}, OkRe n r → ∀ m, n ≤ m → deepB m r = false ∧ rightB m r = true
  | 0, r, h, _, _ => by simp [OkRe] at h
  | n + 1, .mk k x s ps mn mx, h, 0, hm => by omega
  | n + 1, .mk k x s ps mn mx, h, m + 1, hm => by
    unfold OkRe at h
    refine ⟨any_no fun p hp => (okRe_to (h.2 p hp) m (by omega)).1, ?_⟩
    rw [rightB_succ, node_to h.1, Bool.true_and]
    exact List.all_eq_true.2 fun p hp => (okRe_to (h.2 p hp) m (by omega)).2
theorem checkM_zero {r : Re} : checkM r = 0 → OkRe 200 r := by
  intro h
  unfold checkM at h
  split at h
  · omega
  · split at h
    · rename_i h2; exact okRe_of h2
    · omega
theorem okRe_check {n : Nat} {r : Re} (h : OkRe n r) (hn : n ≤ 200) : checkM r = 0 := by
  obtain ⟨h1, h2⟩ := okRe_to h 200 hn
  unfold checkM
  rw [h1, h2]
  rfl
theorem okB_of {r : Re} (h : okB r = true) : OkRe 200 r := checkM_zero (by unfold okB at h; simpa using h)
theorem okRe_okB {n : Nat} {r : Re} (h : OkRe n r) (hn : n ≤ 200) : okB r = true := by unfold okB; rw [okRe_check h hn]; rfl
end Go.Proofs.YtfljcfdfgojdoaaGreatDoor.Sh

namespace Go.Proofs.YtfljcfdfgojdoaaGreatDoor.Sh
open Go.RowKit Go.Lib Go.Proofs.YtfljcfdfgojdoaaGreatDoor

set_option maxRecDepth 100000 in
set_option maxHeartbeats 1000000 in
theorem mayNameS_any (x : List B) (w : World) (hx : x.length ≤ 140737488351232) :
    Calls Tryz.prog 82 #[.string ⟨x.toArray⟩] w fun e w' => e = .returned (.bool (nameOk x)) ∧ Below w.heap.size w w' := by
  have hG : ReG (fun _ => False) w (.mk 3 x Se.none [] 0 0) (reC 3 x Se.none (.slice none 0 0) 0 0) := by
    unfold ReG
    exact ⟨none, 0, rfl, Nat.zero_le _, fun h => absurd rfl h⟩
  have hc := rightRe_any (w := w) (fun g hg => hg.elim) hG (.mk _ _ _ _ _ _ hx (fun p hp => by simp at hp))
  have HO := hid (show okB (.mk 3 x Se.none [] 0 0) = nameOk x by
    by_cases h : nameOk x = true
    · rw [h]
      have hn := nameOk_iff.1 h
      exact okRe_okB (n := 1) (by unfold OkRe; exact ⟨.name x hn (name_len hn), fun p hp => by simp at hp⟩) (by decide)
    · rw [Bool.not_eq_true] at h
      rw [h]
      refine Bool.eq_false_iff.2 fun e => ?_
      have := okB_of e
      rw [show (200 : Nat) = 199 + 1 from rfl] at this
      unfold OkRe at this
      have hn := node_to this.1
      unfold nodeB at hn
      simp [h] at hn)
  rw [HO.out] at hc
  clear hG HO
  go_enter Tryz.func82, Tryz.ntmps82
  go_wp2_with (go_at_call 83; refine hc.mono ?_; clear hc; rintro e w2 ⟨rfl, hb2⟩)
  go_ret
  exact ⟨rfl, hb2⟩
/-- is nothing in a map? -/
def emptyMB (k : Int) (r : Rw) (o : List B) (n : Nat) (mn mx : Int) : Bool :=
  decide (k = 0) && (emptyB r.k r.x r.s r.n r.mn r.mx && (decide (o = []) && (decide (n = 0) && (decide (mn = 0) && decide (mx = 0)))))
set_option maxRecDepth 100000 in
set_option maxHeartbeats 4000000 in
theorem emptyMap_any (k : Int) (r : Rw) (o : List B) (ad : Option Addr) (n cap : Nat) (mn mx : Int) (_hn : n ≤ maxLen) (hrn : r.n ≤ maxLen) (w : World) :
    Calls Tryz.prog 85 #[.agg (mpC k r.k r.x r.s (.slice r.ad r.n r.cap) r.mn r.mx o (.slice ad n cap) mn mx)] w fun e w' => e = .returned (.bool (emptyMB k r o n mn mx)) ∧ Below w.heap.size w w' := by
  have HB := hid (show ∀ o : Obj, Below w.heap.size w (w.alloc o) from fun o => (Below.refl _ w).alloc (Nat.le_refl _) o)
  have HBK := hid (show ∀ o : Obj, (w.alloc o).heap[w.heap.size]? = some o from fun o => heap_alloc_new _ _)
  have HSZ := hid (show ∀ o : Obj, (w.alloc o).heap.size = w.heap.size + 1 from fun o => by simp)
  have HM := hid (show emptyMB k r o n mn mx = (decide (k = 0) && (emptyB r.k r.x r.s r.n r.mn r.mx && (decide (o = []) && (decide (n = 0) && (decide (mn = 0) && decide (mx = 0)))))) from rfl)
  have HE := hid (fun W => emptyRe_any r.k r.x r.s r.ad r.n r.cap r.mn r.mx hrn W)
  unfold maxLen at _hn
  clear hrn

  by_cases hk : k = 0
  · have hkq : (k == 0) = true := by simpa using hk
    by_cases hem : emptyB r.k r.x r.s r.n r.mn r.mx = true
    · rw [hem] at HE
      have HEM := hid hem
      by_cases hxe : o = []
      · have HXE := hid hxe
        subst hxe
        by_cases hn0 : n = 0
        · have hnq : ((n : Int) == 0) = true := by simp [hn0]
          by_cases hmn : mn = 0
          · have hmq : (mn == 0) = true := by simpa using hmn
            by_cases hmx : mx = 0
            · have hmq2 : (mx == 0) = true := by simpa using hmx
              have HF := hid (show emptyMB k r [] n mn mx = true by rw [HM.out, decide_eq_true hk, HEM.out, decide_eq_true rfl, decide_eq_true hn0, decide_eq_true hmn, decide_eq_true hmx]; rfl)
              clear hk hem hn0 hmn hmx
              go_enter Tryz.func85, Tryz.ntmps85
              go_wp2_with (go_at_call 84; refine (HE.out _).mono ?_; rintro e w2 ⟨rfl, hb2⟩; have HB2 := hid ((HB.out _).trans (hb2.mono (by rw [HSZ.out]; omega))); obtain ⟨c0, c1, c2, c3, c4, c5, c6, c7, c8, c9, c10, c11, c12, c13⟩ := four10_of (y := ⟨k, r, [], ad, n, cap, mn, mx⟩) ((hb2.block w.heap.size (by rw [HSZ.out]; omega)).trans (HBK.out _)); clear hb2)
              go_ret
              exact ⟨bool_eq HF.out.symm, HB2.out⟩
            · have hmq2 : (mx == 0) = false := by simpa using hmx
              have HF := hid (show emptyMB k r [] n mn mx = false by rw [HM.out, decide_eq_false hmx]; simp)
              clear hk hem hn0 hmn hmx
              go_enter Tryz.func85, Tryz.ntmps85
              go_wp2_with (go_at_call 84; refine (HE.out _).mono ?_; rintro e w2 ⟨rfl, hb2⟩; have HB2 := hid ((HB.out _).trans (hb2.mono (by rw [HSZ.out]; omega))); obtain ⟨c0, c1, c2, c3, c4, c5, c6, c7, c8, c9, c10, c11, c12, c13⟩ := four10_of (y := ⟨k, r, [], ad, n, cap, mn, mx⟩) ((hb2.block w.heap.size (by rw [HSZ.out]; omega)).trans (HBK.out _)); clear hb2)
              go_ret
              exact ⟨bool_eq HF.out.symm, HB2.out⟩
          · have hmq : (mn == 0) = false := by simpa using hmn
            have HF := hid (show emptyMB k r [] n mn mx = false by rw [HM.out, decide_eq_false hmn]; simp)
            clear hk hem hn0 hmn
            go_enter Tryz.func85, Tryz.ntmps85
            go_wp2_with (go_at_call 84; refine (HE.out _).mono ?_; rintro e w2 ⟨rfl, hb2⟩; have HB2 := hid ((HB.out _).trans (hb2.mono (by rw [HSZ.out]; omega))); obtain ⟨c0, c1, c2, c3, c4, c5, c6, c7, c8, c9, c10, c11, c12, c13⟩ := four10_of (y := ⟨k, r, [], ad, n, cap, mn, mx⟩) ((hb2.block w.heap.size (by rw [HSZ.out]; omega)).trans (HBK.out _)); clear hb2)
            go_ret
            exact ⟨bool_eq HF.out.symm, HB2.out⟩
        · have hnq : ((n : Int) == 0) = false := by rw [beq_eq_false_iff_ne]; omega
          have HF := hid (show emptyMB k r [] n mn mx = false by rw [HM.out, decide_eq_false hn0]; simp)
          clear hk hem hn0
          go_enter Tryz.func85, Tryz.ntmps85
          go_wp2_with (go_at_call 84; refine (HE.out _).mono ?_; rintro e w2 ⟨rfl, hb2⟩; have HB2 := hid ((HB.out _).trans (hb2.mono (by rw [HSZ.out]; omega))); obtain ⟨c0, c1, c2, c3, c4, c5, c6, c7, c8, c9, c10, c11, c12, c13⟩ := four10_of (y := ⟨k, r, [], ad, n, cap, mn, mx⟩) ((hb2.block w.heap.size (by rw [HSZ.out]; omega)).trans (HBK.out _)); clear hb2)
          go_ret
          exact ⟨bool_eq HF.out.symm, HB2.out⟩
      · obtain ⟨hx1, hx2⟩ := str_none hxe
        have HF := hid (show emptyMB k r o n mn mx = false by rw [HM.out, decide_eq_false hxe]; simp)
        clear hk hem hxe
        go_enter Tryz.func85, Tryz.ntmps85
        go_wp2_with (go_at_call 84; refine (HE.out _).mono ?_; rintro e w2 ⟨rfl, hb2⟩; have HB2 := hid ((HB.out _).trans (hb2.mono (by rw [HSZ.out]; omega))); obtain ⟨c0, c1, c2, c3, c4, c5, c6, c7, c8, c9, c10, c11, c12, c13⟩ := four10_of (y := ⟨k, r, o, ad, n, cap, mn, mx⟩) ((hb2.block w.heap.size (by rw [HSZ.out]; omega)).trans (HBK.out _)); clear hb2)
        go_ret
        exact ⟨bool_eq HF.out.symm, HB2.out⟩
    · rw [Bool.not_eq_true] at hem
      rw [hem] at HE
      have HEM := hid hem
      have HF := hid (show emptyMB k r o n mn mx = false by rw [HM.out, HEM.out]; simp)
      clear hk hem
      go_enter Tryz.func85, Tryz.ntmps85
      go_wp2_with (go_at_call 84; refine (HE.out _).mono ?_; rintro e w2 ⟨rfl, hb2⟩; have HB2 := hid ((HB.out _).trans (hb2.mono (by rw [HSZ.out]; omega))); obtain ⟨c0, c1, c2, c3, c4, c5, c6, c7, c8, c9, c10, c11, c12, c13⟩ := four10_of (y := ⟨k, r, o, ad, n, cap, mn, mx⟩) ((hb2.block w.heap.size (by rw [HSZ.out]; omega)).trans (HBK.out _)); clear hb2)
      go_ret
      exact ⟨bool_eq HF.out.symm, HB2.out⟩
  · have hkq : (k == 0) = false := by simpa using hk
    have HF := hid (show emptyMB k r o n mn mx = false by rw [HM.out, decide_eq_false hk]; simp)
    clear hk
    go_enter Tryz.func85, Tryz.ntmps85
    go_wp2
    go_ret
    exact ⟨bool_eq HF.out.symm, HB.out _⟩

end Go.Proofs.YtfljcfdfgojdoaaGreatDoor.Sh
