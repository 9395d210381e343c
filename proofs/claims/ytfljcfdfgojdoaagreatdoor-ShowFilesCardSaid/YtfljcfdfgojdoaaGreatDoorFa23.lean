/-
  rightMap as it is: one map, its parts aside. (Printed by genRm.py.)
-/
import Derived.Test.YtfljcfdfgojdoaaGreatDoorFa22
import Derived.Deep.DeepCutAuto
import Derived.Deep.CutBlock
namespace Go.Proofs.YtfljcfdfgojdoaaGreatDoor.Sh
open Go.RowKit Go.Lib Go.Proofs.YtfljcfdfgojdoaaGreatDoor

/-- the level of an expression is that of a leaf -/
def leafB (k : Int) : Bool := decide (levK k = 5)
/-- what the switch tells -/
def okmB (y : Mw) (r : Re) : Bool :=
  if y.k = 1 then leafB y.r.k && okB r
  else if y.k = 2 then (leafB y.r.k && okB r) && decide (y.o.length ≤ 256)
  else if y.k = 3 ∨ y.k = 4 then decide (2 ≤ y.n)
  else if y.k = 5 then decide (y.n = 1) && ((decide (y.mx = -1) && (decide (y.mn = 0) || decide (y.mn = 1))) || (decide (y.mn = 0) && decide (y.mx = 1)))
  else false
/-- what is left to be empty -/
def restM (y : Mw) : Mw :=
  if y.k = 1 then ⟨y.k, Rw.zero, y.o, y.ad, y.n, y.cap, y.mn, y.mx⟩
  else if y.k = 2 then ⟨y.k, Rw.zero, [], y.ad, y.n, y.cap, y.mn, y.mx⟩
  else if y.k = 3 ∨ y.k = 4 then ⟨y.k, y.r, y.o, none, 0, 0, y.mn, y.mx⟩
  else if y.k = 5 then ⟨y.k, y.r, y.o, none, 0, 0, 0, 0⟩
  else y
theorem restM_1 {y : Mw} (h : y.k = 1) : restM y = ⟨y.k, Rw.zero, y.o, y.ad, y.n, y.cap, y.mn, y.mx⟩ := by unfold restM; rw [if_pos h]
theorem restM_2 {y : Mw} (h : y.k = 2) : restM y = ⟨y.k, Rw.zero, [], y.ad, y.n, y.cap, y.mn, y.mx⟩ := by unfold restM; rw [if_neg (by omega), if_pos h]
theorem restM_34 {y : Mw} (h : y.k = 3 ∨ y.k = 4) : restM y = ⟨y.k, y.r, y.o, none, 0, 0, y.mn, y.mx⟩ := by unfold restM; rw [if_neg (by omega), if_neg (by omega), if_pos h]
theorem restM_5 {y : Mw} (h : y.k = 5) : restM y = ⟨y.k, y.r, y.o, none, 0, 0, 0, 0⟩ := by unfold restM; rw [if_neg (by omega), if_neg (by omega), if_neg (by omega), if_pos h]
theorem restM_no {y : Mw} (h1 : ¬ y.k = 1) (h2 : ¬ y.k = 2) (h3 : ¬ (y.k = 3 ∨ y.k = 4)) (h5 : ¬ y.k = 5) : restM y = y := by unfold restM; rw [if_neg h1, if_neg h2, if_neg h3, if_neg h5]
theorem put_zero (y : Mw) : Go.Proofs.YtfljcfdfgojdoaaGreatDoor.putAt y.cs 1 reZ.toList = Mw.cs ⟨y.k, Rw.zero, y.o, y.ad, y.n, y.cap, y.mn, y.mx⟩ := by kernel_rfl
/-- what stands behind the switch -/
structure MapMid (w : World) (y : Mw) (r : Re) (v : Value) (wx : World) : Prop where
  v : v = .bool (okmB y r)
  box : wx.heap[w.heap.size]? = some (.cells y.cs 36 (0, 0))
  rest : wx.heap[w.heap.size + 1]? = some (.cells (restM y).cs 36 (0, 0))
  low : Below w.heap.size w wx
theorem below_set {B i : Nat} {w W : World} (h : Below B w W) (hi : B ≤ i) (o : Nat) (v : Value) : Below B w (W.setCell ⟨i, o, none⟩ v) :=
  ⟨h.os, h.tape, h.output, by simpa using h.size, fun k hk => (box_other _ (by omega)).trans (h.block k hk)⟩
theorem setRow_below {B i : Nat} {w W : World} (h : Below B w W) (hi : B ≤ i) (cs : Array Value) : Below B w (W.setRow i cs) :=
  ⟨h.os, h.tape, h.output, by rw [size_setRow]; exact h.size, fun k hk => (Go.Proofs.YtfljcfdfgojdoaaGreatDoor.setRow_other cs (by omega)).trans (h.block k hk)⟩


/-- the same of a map, not of its cells -/
def rwOf : Re → Rw | .mk k x s ps mn mx => ⟨k, x, s, none, ps.length, 0, mn, mx⟩
def mwOf : Mp → Mw | .mk k r o ps mn mx => ⟨k, rwOf r, o, none, ps.length, 0, mn, mx⟩
def nodeM (y : Mw) (r : Re) : Bool := okmB y r && emptyMB 0 (restM y).r (restM y).o (restM y).n (restM y).mn (restM y).mx
def mrightB : Nat → Mp → Bool
  | 0, _ => false
  | n + 1, .mk k r o ps mn mx => nodeM (mwOf (.mk k r o ps mn mx)) r && ps.all (mrightB n)
theorem nodeM_ad (k : Int) (r : Re) (rk : Int) (rx : List B) (rs : Se) (ra : Option Addr) (rn rc : Nat) (ri rj : Int) (o : List B) (ad : Option Addr) (n cap : Nat) (mn mx : Int) :
    nodeM ⟨k, ⟨rk, rx, rs, ra, rn, rc, ri, rj⟩, o, ad, n, cap, mn, mx⟩ r = nodeM ⟨k, ⟨rk, rx, rs, none, rn, 0, ri, rj⟩, o, none, n, 0, mn, mx⟩ r := by
  unfold nodeM okmB restM emptyMB
  dsimp only
  split
  · rfl
  · split
    · rfl
    · split
      · rfl
      · split <;> rfl
theorem nodeM_same {F : Nat → Prop} {w : World} {k : Int} {r : Re} {o : List B} {ps : List Mp} {mn mx : Int} {y : Mw} (h : MpG F w (.mk k r o ps mn mx) y) : nodeM y r = nodeM (mwOf (.mk k r o ps mn mx)) r := by
  obtain ⟨h1, h2, h3, h4, h5, h6, _, _⟩ := h.open
  obtain ⟨yk, ⟨rk, rx, rs, ra, rn, rc, ri, rj⟩, yo, yad, yn, ycap, ymn, ymx⟩ := y
  dsimp only at h1 h2 h3 h4 h5
  subst h1 h2 h3 h4 h5
  obtain ⟨k', x', s', ps', mn', mx'⟩ := r
  obtain ⟨ad', cap', e, _, _⟩ := h6.open
  rw [nodeM_ad]
  obtain ⟨a1, a2, a3, a4⟩ := rs
  obtain ⟨b1, b2, b3, b4⟩ := s'
  simp only [Rw.cs, reC, Array.mk.injEq, List.cons.injEq, Value.int.injEq, Value.string.injEq, Value.slice.injEq, ByteArray.mk.injEq, true_and, and_true] at e
  obtain ⟨rfl, e2, rfl, rfl, rfl, rfl, ⟨rfl, rfl, rfl⟩, rfl, rfl⟩ := e
  obtain rfl : rx = x' := by simpa using e2
  rfl
/-- rightMap at a map, with so many levels -/
def MRightAt (m : Nat) (p : Mp) : Prop := ∀ (F : Nat → Prop) (y : Mw) (w : World), (∀ g, F g → g < w.heap.size) → MpG F w p y → Calls Tryz.prog 55 #[.agg y.cs, .int .i64 m] w fun e w' => e = .returned (.bool (mrightB m p)) ∧ Below w.heap.size w w'
theorem restM_n {y : Mw} (h : y.n ≤ maxLen) : (restM y).n ≤ maxLen := by
  unfold restM
  split
  · exact h
  · split
    · exact h
    · split
      · exact Nat.zero_le _
      · split
        · exact Nat.zero_le _
        · exact h
theorem restM_rn {y : Mw} (h : y.r.n ≤ maxLen) : (restM y).r.n ≤ maxLen := by
  unfold restM
  split
  · exact Nat.zero_le _
  · split
    · exact Nat.zero_le _
    · split
      · exact h
      · split
        · exact h
        · exact h
set_option maxRecDepth 100000 in
set_option maxHeartbeats 8000000 in
theorem rightMap_step {F : Nat → Prop} {y : Mw} {r : Re} {w : World} {m : Nat} {ps : List Mp} (hm : m ≤ 1000) (hyn : y.n ≤ maxLen) (hyr : y.r.n ≤ maxLen) (hyo : y.o.length ≤ 140737488351232)
    (hrr : ∀ W, Below w.heap.size w W → Calls Tryz.prog 83 #[.agg y.r.cs] W fun e w' => e = .returned (.bool (okB r)) ∧ Below W.heap.size W w')
    (hFw : ∀ g, F g → g < w.heap.size) (hpl : y.n = ps.length) (hps : ps ≠ [] → ∃ g off, y.ad = some ⟨g, off, none⟩ ∧ F g ∧ MpsG F w g off ps) (ih : ∀ p ∈ ps, MRightAt m p) :
    Calls Tryz.prog 55 #[.agg y.cs, .int .i64 ((m + 1 : Nat) : Int)] w fun e w' => e = .returned (.bool (nodeM y r && ps.all (mrightB m))) ∧ Below w.heap.size w w' := by
  obtain ⟨BN, hBN⟩ : ∃ b, b = nodeM y r := ⟨_, rfl⟩
  have hnode := hid (show BN = (okmB y r && emptyMB 0 (restM y).r (restM y).o (restM y).n (restM y).mn (restM y).mx) from hBN)
  rw [← hBN]
  clear hBN
  have HPL := hid hpl
  have HPS := hid hps
  have IH := hid ih
  have HFW := hid hFw
  have HYR := hid (And.intro hyn hyr)
  have hm0 : (((m + 1 : Nat) : Int) == 0) = false := by rw [beq_eq_false_iff_ne]; omega
  have hblk : ((w.alloc (.cells y.cs 36)).alloc (.cells y.cs 36)).heap[w.heap.size]? = some (.cells y.cs 36 (0, 0)) := heap_alloc2_old _ _ _
  have hrst : ((w.alloc (.cells y.cs 36)).alloc (.cells y.cs 36)).heap[w.heap.size + 1]? = some (.cells y.cs 36 (0, 0)) := heap_alloc2_new _ _ _
  have HB := hid (show Below w.heap.size w ((w.alloc (.cells y.cs 36)).alloc (.cells y.cs 36)) from ((Below.refl _ w).alloc (Nat.le_refl _) _).alloc (by simp) _)
  have HSZ := hid (show ((w.alloc (.cells y.cs 36)).alloc (.cells y.cs 36)).heap.size = w.heap.size + 2 by simp)
  have HBK := hid hblk
  have HRS := hid hrst
  have HRR := hid hrr
  unfold maxLen at hyn
  clear hblk hrst hrr hpl hps ih hFw hyr
  go_enter Tryz.func55, Tryz.ntmps55
  go_upto_block 0 with fail
  generalize (w.alloc (.cells y.cs 36)).alloc (.cells y.cs 36) = W2 at *
  go_cut [6] (fun v wx => MapMid w y r v wx)
  case first =>
    have hlow : w.heap.size < W2.heap.size := by have := HSZ.out; omega

    by_cases hk : y.k = 1
    · have HK := hid hk
      have HQ1 := hid (Go.Proofs.YtfljcfdfgojdoaaGreatDoor.setRow_heap HRS.out (Mw.cs ⟨y.k, Rw.zero, y.o, y.ad, y.n, y.cap, y.mn, y.mx⟩))
      have HQ2 := hid ((Go.Proofs.YtfljcfdfgojdoaaGreatDoor.setRow_other (Mw.cs ⟨y.k, Rw.zero, y.o, y.ad, y.n, y.cap, y.mn, y.mx⟩) (show w.heap.size ≠ w.heap.size + 1 by omega)).trans HBK.out)
      have HQ3 := hid (setRow_below HB.out (show w.heap.size ≤ w.heap.size + 1 by omega) (Mw.cs ⟨y.k, Rw.zero, y.o, y.ad, y.n, y.cap, y.mn, y.mx⟩))
      have HQS := hid (show (W2.setRow (w.heap.size + 1) (Mw.cs ⟨y.k, Rw.zero, y.o, y.ad, y.n, y.cap, y.mn, y.mx⟩)).heap.size = w.heap.size + 2 by rw [size_setRow]; exact HSZ.out)
      have q1 : (y.k == 1) = true := by rw [hk]; rfl
      have q2 : (y.k == 2) = false := by rw [hk]; rfl
      have q3 : (y.k == 3) = false := by rw [hk]; rfl
      have q4 : (y.k == 4) = false := by rw [hk]; rfl
      have q5 : (y.k == 5) = false := by rw [hk]; rfl
      have e0 := cell_blk (i := 0) HBK.out rfl
      go_upto_region 9 with (refine Go.Proofs.YtfljcfdfgojdoaaGreatDoor.wpList_store_at rfl 33 (.tmp 18) (.tmp 17) rfl 9 Go.Proofs.YtfljcfdfgojdoaaGreatDoor.info27 (w.heap.size + 1) 36 y.cs HRS.out 1 (by show 1 + 9 ≤ 14; omega) reZ rfl rfl rfl rfl (Mw.cs ⟨y.k, Rw.zero, y.o, y.ad, y.n, y.cap, y.mn, y.mx⟩) (put_zero y) ?_)
      generalize W2.setRow (w.heap.size + 1) (Mw.cs ⟨y.k, Rw.zero, y.o, y.ad, y.n, y.cap, y.mn, y.mx⟩) = W3 at *
      clear e0
      have hlev := level_any y.r.k y.r.x y.r.s (.slice y.r.ad y.r.n y.r.cap) y.r.mn y.r.mx W3
      obtain ⟨c0, c1, c2, c3, c4, c5, c6, c7, c8, c9, c10, c11, c12, c13⟩ := four10_of HQ2.out
      rcases Bool.eq_false_or_eq_true (leafB y.r.k) with hlf | hlf
      · rcases Bool.eq_false_or_eq_true (okB r) with hok | hok
        · have HV := hid (show okmB y r = true by unfold okmB; rw [if_pos hk]; simp only [hlf, hok, Bool.and_true])
          have hlk : (levK y.r.k : Int) = 5 := by have := of_decide_eq_true hlf; omega
          rw [hlk] at hlev
          have hokc := HRR.out
          rw [hok] at hokc
          have HRC := hid hokc
          clear hokc
          clear hlf hok hk
          go_upto_region 10 with (first | (go_at_call 97; refine hlev.mono ?_; clear hlev; rintro e W4 ⟨rfl, hb4⟩; have HB4 := hid (HQ3.out.trans (hb4.mono (by have := HQS.out; omega))); have HBX := hid ((hb4.block w.heap.size (by have := HQS.out; omega)).trans HQ2.out); have HRX := hid ((hb4.block (w.heap.size + 1) (by have := HQS.out; omega)).trans HQ1.out); have hs4 := hb4.size; clear hb4 c0 c1 c2 c3 c4 c5 c6 c7 c8 c9 c10 c11 c12 c13; obtain ⟨c0, c1, c2, c3, c4, c5, c6, c7, c8, c9, c10, c11, c12, c13⟩ := four10_of HBX.out; have hcall := HRC.out W4 HB4.out) | (go_at_call 83; refine hcall.mono ?_; clear hcall; rintro e W5 ⟨rfl, hb5⟩; have HB5 := hid (HB4.out.trans (hb5.mono HB4.out.size)); have HBY := hid ((hb5.block w.heap.size (lt_of_heap HBX.out)).trans HBX.out); have HRY := hid ((hb5.block (w.heap.size + 1) (lt_of_heap HRX.out)).trans HRX.out); clear hb5 c0 c1 c2 c3 c4 c5 c6 c7 c8 c9 c10 c11 c12 c13; obtain ⟨c0, c1, c2, c3, c4, c5, c6, c7, c8, c9, c10, c11, c12, c13⟩ := four10_of HBY.out))
          go_wp2
          go_meet
          case rel => exact ⟨by rw [HV.out], HBY.out, by rw [restM_1 HK.out]; exact HRY.out, HB5.out⟩
        · have HV := hid (show okmB y r = false by unfold okmB; rw [if_pos hk]; simp only [hlf, hok, Bool.and_false])
          have hlk : (levK y.r.k : Int) = 5 := by have := of_decide_eq_true hlf; omega
          rw [hlk] at hlev
          have hokc := HRR.out
          rw [hok] at hokc
          have HRC := hid hokc
          clear hokc
          clear hlf hok hk
          go_upto_region 10 with (first | (go_at_call 97; refine hlev.mono ?_; clear hlev; rintro e W4 ⟨rfl, hb4⟩; have HB4 := hid (HQ3.out.trans (hb4.mono (by have := HQS.out; omega))); have HBX := hid ((hb4.block w.heap.size (by have := HQS.out; omega)).trans HQ2.out); have HRX := hid ((hb4.block (w.heap.size + 1) (by have := HQS.out; omega)).trans HQ1.out); have hs4 := hb4.size; clear hb4 c0 c1 c2 c3 c4 c5 c6 c7 c8 c9 c10 c11 c12 c13; obtain ⟨c0, c1, c2, c3, c4, c5, c6, c7, c8, c9, c10, c11, c12, c13⟩ := four10_of HBX.out; have hcall := HRC.out W4 HB4.out) | (go_at_call 83; refine hcall.mono ?_; clear hcall; rintro e W5 ⟨rfl, hb5⟩; have HB5 := hid (HB4.out.trans (hb5.mono HB4.out.size)); have HBY := hid ((hb5.block w.heap.size (lt_of_heap HBX.out)).trans HBX.out); have HRY := hid ((hb5.block (w.heap.size + 1) (lt_of_heap HRX.out)).trans HRX.out); clear hb5 c0 c1 c2 c3 c4 c5 c6 c7 c8 c9 c10 c11 c12 c13; obtain ⟨c0, c1, c2, c3, c4, c5, c6, c7, c8, c9, c10, c11, c12, c13⟩ := four10_of HBY.out))
          go_wp2
          go_meet
          case rel => exact ⟨by rw [HV.out], HBY.out, by rw [restM_1 HK.out]; exact HRY.out, HB5.out⟩
      · have HV := hid (show okmB y r = false by unfold okmB; rw [if_pos hk]; simp only [hlf, Bool.false_and])
        have hlk : ((levK y.r.k : Nat) : Int) ≠ 5 := by have := of_decide_eq_false hlf; omega
        have hlq : (((levK y.r.k : Nat) : Int) == 5) = false := by simpa using hlk
        generalize ((levK y.r.k : Nat) : Int) = lk at *
        clear hlf hk
        go_upto_region 10 with (go_at_call 97; refine hlev.mono ?_; clear hlev; rintro e W4 ⟨rfl, hb4⟩; have HB4 := hid (HQ3.out.trans (hb4.mono (by have := HQS.out; omega))); have HBX := hid ((hb4.block w.heap.size (by have := HQS.out; omega)).trans HQ2.out); have HRX := hid ((hb4.block (w.heap.size + 1) (by have := HQS.out; omega)).trans HQ1.out); have hs4 := hb4.size; clear hb4 c0 c1 c2 c3 c4 c5 c6 c7 c8 c9 c10 c11 c12 c13; obtain ⟨c0, c1, c2, c3, c4, c5, c6, c7, c8, c9, c10, c11, c12, c13⟩ := four10_of HBX.out)
        go_wp2
        go_meet
        case rel => exact ⟨by rw [HV.out], HBX.out, by rw [restM_1 HK.out]; exact HRX.out, HB4.out⟩
    by_cases hk2 : y.k = 2
    · have hk := hk2
      have HK := hid hk
      clear hk2
      have HQ1 := hid (Go.Proofs.YtfljcfdfgojdoaaGreatDoor.setRow_heap HRS.out (Mw.cs ⟨y.k, Rw.zero, y.o, y.ad, y.n, y.cap, y.mn, y.mx⟩))
      have HQ2 := hid ((Go.Proofs.YtfljcfdfgojdoaaGreatDoor.setRow_other (Mw.cs ⟨y.k, Rw.zero, y.o, y.ad, y.n, y.cap, y.mn, y.mx⟩) (show w.heap.size ≠ w.heap.size + 1 by omega)).trans HBK.out)
      have HQ3 := hid (setRow_below HB.out (show w.heap.size ≤ w.heap.size + 1 by omega) (Mw.cs ⟨y.k, Rw.zero, y.o, y.ad, y.n, y.cap, y.mn, y.mx⟩))
      have HQS := hid (show (W2.setRow (w.heap.size + 1) (Mw.cs ⟨y.k, Rw.zero, y.o, y.ad, y.n, y.cap, y.mn, y.mx⟩)).heap.size = w.heap.size + 2 by rw [size_setRow]; exact HSZ.out)
      have q1 : (y.k == 1) = false := by rw [hk]; rfl
      have q2 : (y.k == 2) = true := by rw [hk]; rfl
      have q3 : (y.k == 3) = false := by rw [hk]; rfl
      have q4 : (y.k == 4) = false := by rw [hk]; rfl
      have q5 : (y.k == 5) = false := by rw [hk]; rfl
      have e0 := cell_blk (i := 0) HBK.out rfl
      go_upto_region 9 with (refine Go.Proofs.YtfljcfdfgojdoaaGreatDoor.wpList_store_at rfl 33 (.tmp 18) (.tmp 17) rfl 9 Go.Proofs.YtfljcfdfgojdoaaGreatDoor.info27 (w.heap.size + 1) 36 y.cs HRS.out 1 (by show 1 + 9 ≤ 14; omega) reZ rfl rfl rfl rfl (Mw.cs ⟨y.k, Rw.zero, y.o, y.ad, y.n, y.cap, y.mn, y.mx⟩) (put_zero y) ?_)
      generalize W2.setRow (w.heap.size + 1) (Mw.cs ⟨y.k, Rw.zero, y.o, y.ad, y.n, y.cap, y.mn, y.mx⟩) = W3 at *
      clear e0
      have hlev := level_any y.r.k y.r.x y.r.s (.slice y.r.ad y.r.n y.r.cap) y.r.mn y.r.mx W3
      obtain ⟨c0, c1, c2, c3, c4, c5, c6, c7, c8, c9, c10, c11, c12, c13⟩ := four10_of HQ2.out
      rcases Bool.eq_false_or_eq_true (leafB y.r.k) with hlf | hlf
      · rcases Bool.eq_false_or_eq_true (okB r) with hok | hok
        · rcases Bool.eq_false_or_eq_true (decide (y.o.length ≤ 256)) with hol | hol
          · have HV := hid (show okmB y r = true by unfold okmB; rw [if_neg (by omega), if_pos hk]; simp only [hlf, hok, hol, Bool.and_true])
            have hlk : (levK y.r.k : Int) = 5 := by have := of_decide_eq_true hlf; omega
            rw [hlk] at hlev
            have hoz : ((⟨y.o.toArray⟩ : ByteArray).size : Int) ≤ 256 := by rw [str_size]; have := of_decide_eq_true hol; omega
            have hoz2 : (y.o.length : Int) ≤ 256 := by have := of_decide_eq_true hol; omega
            have hokc := HRR.out
            rw [hok] at hokc
            have HRC := hid hokc
            clear hokc
            clear hlf hok hol hk
            go_upto_region 10 with (first | (go_at_call 97; refine hlev.mono ?_; clear hlev; rintro e W4 ⟨rfl, hb4⟩; have HB4 := hid (HQ3.out.trans (hb4.mono (by have := HQS.out; omega))); have HBX := hid ((hb4.block w.heap.size (by have := HQS.out; omega)).trans HQ2.out); have HRX := hid ((hb4.block (w.heap.size + 1) (by have := HQS.out; omega)).trans HQ1.out); have hs4 := hb4.size; clear hb4 c0 c1 c2 c3 c4 c5 c6 c7 c8 c9 c10 c11 c12 c13; obtain ⟨c0, c1, c2, c3, c4, c5, c6, c7, c8, c9, c10, c11, c12, c13⟩ := four10_of HBX.out; have hcall := HRC.out W4 HB4.out) | (go_at_call 83; refine hcall.mono ?_; clear hcall; rintro e W5 ⟨rfl, hb5⟩; have HB5 := hid (HB4.out.trans (hb5.mono HB4.out.size)); have HBY := hid ((hb5.block w.heap.size (lt_of_heap HBX.out)).trans HBX.out); have HRY := hid ((hb5.block (w.heap.size + 1) (lt_of_heap HRX.out)).trans HRX.out); clear hb5 c0 c1 c2 c3 c4 c5 c6 c7 c8 c9 c10 c11 c12 c13; obtain ⟨c0, c1, c2, c3, c4, c5, c6, c7, c8, c9, c10, c11, c12, c13⟩ := four10_of HBY.out; have g10 := cell_blk (i := 10) HRY.out rfl; have z10 := free_box (i := 10) HRY.out; have HR10 := hid (heap_setCell_same _ _ 10 _ _ (.string ⟨#[]⟩) HRY.out); have HB10 := hid ((box_other (w := W5) (P := w.heap.size + 1) (i := 10) (.string ⟨#[]⟩) (by omega)).trans HBY.out); clear c0 c1 c2 c3 c4 c5 c6 c7 c8 c9 c10 c11 c12 c13; obtain ⟨b0, b1, b2, b3, b4, b5, b6, b7, b8, b9, b10, b11, b12, b13⟩ := four10_of HB10.out; obtain ⟨c0, c1, c2, c3, c4, c5, c6, c7, c8, c9, c10, c11, c12, c13⟩ := four10_of HBY.out))
            go_wp2
            go_meet
            case rel => exact ⟨by first | (rw [HV.out]; done) | (rw [HV.out, decide_eq_false (by omega)]), HB10.out, by rw [restM_2 HK.out]; exact HR10.out, below_set HB5.out (by omega) _ _⟩
          · have HV := hid (show okmB y r = false by unfold okmB; rw [if_neg (by omega), if_pos hk]; simp only [hlf, hok, hol, Bool.and_true, Bool.and_false])
            have hlk : (levK y.r.k : Int) = 5 := by have := of_decide_eq_true hlf; omega
            rw [hlk] at hlev
            have hoz : ¬ ((⟨y.o.toArray⟩ : ByteArray).size : Int) ≤ 256 := by rw [str_size]; have := of_decide_eq_false hol; omega
            have hoz2 : ¬ (y.o.length : Int) ≤ 256 := by have := of_decide_eq_false hol; omega
            have hokc := HRR.out
            rw [hok] at hokc
            have HRC := hid hokc
            clear hokc
            clear hlf hok hol hk
            go_upto_region 10 with (first | (go_at_call 97; refine hlev.mono ?_; clear hlev; rintro e W4 ⟨rfl, hb4⟩; have HB4 := hid (HQ3.out.trans (hb4.mono (by have := HQS.out; omega))); have HBX := hid ((hb4.block w.heap.size (by have := HQS.out; omega)).trans HQ2.out); have HRX := hid ((hb4.block (w.heap.size + 1) (by have := HQS.out; omega)).trans HQ1.out); have hs4 := hb4.size; clear hb4 c0 c1 c2 c3 c4 c5 c6 c7 c8 c9 c10 c11 c12 c13; obtain ⟨c0, c1, c2, c3, c4, c5, c6, c7, c8, c9, c10, c11, c12, c13⟩ := four10_of HBX.out; have hcall := HRC.out W4 HB4.out) | (go_at_call 83; refine hcall.mono ?_; clear hcall; rintro e W5 ⟨rfl, hb5⟩; have HB5 := hid (HB4.out.trans (hb5.mono HB4.out.size)); have HBY := hid ((hb5.block w.heap.size (lt_of_heap HBX.out)).trans HBX.out); have HRY := hid ((hb5.block (w.heap.size + 1) (lt_of_heap HRX.out)).trans HRX.out); clear hb5 c0 c1 c2 c3 c4 c5 c6 c7 c8 c9 c10 c11 c12 c13; obtain ⟨c0, c1, c2, c3, c4, c5, c6, c7, c8, c9, c10, c11, c12, c13⟩ := four10_of HBY.out; have g10 := cell_blk (i := 10) HRY.out rfl; have z10 := free_box (i := 10) HRY.out; have HR10 := hid (heap_setCell_same _ _ 10 _ _ (.string ⟨#[]⟩) HRY.out); have HB10 := hid ((box_other (w := W5) (P := w.heap.size + 1) (i := 10) (.string ⟨#[]⟩) (by omega)).trans HBY.out); clear c0 c1 c2 c3 c4 c5 c6 c7 c8 c9 c10 c11 c12 c13; obtain ⟨b0, b1, b2, b3, b4, b5, b6, b7, b8, b9, b10, b11, b12, b13⟩ := four10_of HB10.out; obtain ⟨c0, c1, c2, c3, c4, c5, c6, c7, c8, c9, c10, c11, c12, c13⟩ := four10_of HBY.out))
            go_wp2
            go_meet
            case rel => exact ⟨by first | (rw [HV.out]; done) | (rw [HV.out, decide_eq_false (by omega)]), HB10.out, by rw [restM_2 HK.out]; exact HR10.out, below_set HB5.out (by omega) _ _⟩
        · have HV := hid (show okmB y r = false by unfold okmB; rw [if_neg (by omega), if_pos hk]; simp only [hlf, hok, Bool.false_and, Bool.and_false])
          have hlk : (levK y.r.k : Int) = 5 := by have := of_decide_eq_true hlf; omega
          rw [hlk] at hlev
          have hokc := HRR.out
          rw [hok] at hokc
          have HRC := hid hokc
          clear hokc
          clear hlf hok hk
          go_upto_region 10 with (first | (go_at_call 97; refine hlev.mono ?_; clear hlev; rintro e W4 ⟨rfl, hb4⟩; have HB4 := hid (HQ3.out.trans (hb4.mono (by have := HQS.out; omega))); have HBX := hid ((hb4.block w.heap.size (by have := HQS.out; omega)).trans HQ2.out); have HRX := hid ((hb4.block (w.heap.size + 1) (by have := HQS.out; omega)).trans HQ1.out); have hs4 := hb4.size; clear hb4 c0 c1 c2 c3 c4 c5 c6 c7 c8 c9 c10 c11 c12 c13; obtain ⟨c0, c1, c2, c3, c4, c5, c6, c7, c8, c9, c10, c11, c12, c13⟩ := four10_of HBX.out; have hcall := HRC.out W4 HB4.out) | (go_at_call 83; refine hcall.mono ?_; clear hcall; rintro e W5 ⟨rfl, hb5⟩; have HB5 := hid (HB4.out.trans (hb5.mono HB4.out.size)); have HBY := hid ((hb5.block w.heap.size (lt_of_heap HBX.out)).trans HBX.out); have HRY := hid ((hb5.block (w.heap.size + 1) (lt_of_heap HRX.out)).trans HRX.out); clear hb5 c0 c1 c2 c3 c4 c5 c6 c7 c8 c9 c10 c11 c12 c13; obtain ⟨c0, c1, c2, c3, c4, c5, c6, c7, c8, c9, c10, c11, c12, c13⟩ := four10_of HBY.out; have g10 := cell_blk (i := 10) HRY.out rfl; have z10 := free_box (i := 10) HRY.out; have HR10 := hid (heap_setCell_same _ _ 10 _ _ (.string ⟨#[]⟩) HRY.out); have HB10 := hid ((box_other (w := W5) (P := w.heap.size + 1) (i := 10) (.string ⟨#[]⟩) (by omega)).trans HBY.out); clear c0 c1 c2 c3 c4 c5 c6 c7 c8 c9 c10 c11 c12 c13; obtain ⟨b0, b1, b2, b3, b4, b5, b6, b7, b8, b9, b10, b11, b12, b13⟩ := four10_of HB10.out; obtain ⟨c0, c1, c2, c3, c4, c5, c6, c7, c8, c9, c10, c11, c12, c13⟩ := four10_of HBY.out))
          go_wp2
          go_meet
          case rel => exact ⟨by first | (rw [HV.out]; done) | (rw [HV.out, decide_eq_false (by omega)]), HB10.out, by rw [restM_2 HK.out]; exact HR10.out, below_set HB5.out (by omega) _ _⟩
      · have HV := hid (show okmB y r = false by unfold okmB; rw [if_neg (by omega), if_pos hk]; simp only [hlf, Bool.false_and])
        have hlk : ((levK y.r.k : Nat) : Int) ≠ 5 := by have := of_decide_eq_false hlf; omega
        have hlq : (((levK y.r.k : Nat) : Int) == 5) = false := by simpa using hlk
        generalize ((levK y.r.k : Nat) : Int) = lk at *
        clear hlf hk
        go_upto_region 10 with (go_at_call 97; refine hlev.mono ?_; clear hlev; rintro e W4 ⟨rfl, hb4⟩; have HB4 := hid (HQ3.out.trans (hb4.mono (by have := HQS.out; omega))); have HBX := hid ((hb4.block w.heap.size (by have := HQS.out; omega)).trans HQ2.out); have HRX := hid ((hb4.block (w.heap.size + 1) (by have := HQS.out; omega)).trans HQ1.out); have hs4 := hb4.size; clear hb4 c0 c1 c2 c3 c4 c5 c6 c7 c8 c9 c10 c11 c12 c13; obtain ⟨c0, c1, c2, c3, c4, c5, c6, c7, c8, c9, c10, c11, c12, c13⟩ := four10_of HBX.out; have g10 := cell_blk (i := 10) HRX.out rfl; have z10 := free_box (i := 10) HRX.out; have HR10 := hid (heap_setCell_same _ _ 10 _ _ (.string ⟨#[]⟩) HRX.out); have HB10 := hid ((box_other (w := W4) (P := w.heap.size + 1) (i := 10) (.string ⟨#[]⟩) (by omega)).trans HBX.out); clear c0 c1 c2 c3 c4 c5 c6 c7 c8 c9 c10 c11 c12 c13; obtain ⟨b0, b1, b2, b3, b4, b5, b6, b7, b8, b9, b10, b11, b12, b13⟩ := four10_of HB10.out; obtain ⟨c0, c1, c2, c3, c4, c5, c6, c7, c8, c9, c10, c11, c12, c13⟩ := four10_of HBX.out)
        go_wp2
        go_meet
        case rel => exact ⟨by rw [HV.out], HB10.out, by rw [restM_2 HK.out]; exact HR10.out, below_set HB4.out (by omega) _ _⟩
    by_cases hk3 : y.k = 3
    · have hk := hk3
      have HK := hid (show y.k = 3 ∨ y.k = 4 from .inl hk3)
      clear hk3
      by_cases hn : 2 ≤ y.n
      · have hn2 : (2 : Int) ≤ (y.n : Int) := by omega
        have HV := hid (show okmB y r = true by unfold okmB; rw [if_neg (by omega), if_neg (by omega), if_pos (by omega)]; exact decide_eq_true hn)
        clear hn
        have g11 := cell_blk (i := 11) HRS.out rfl
        have z11 := free_box (i := 11) HRS.out
        obtain ⟨c0, c1, c2, c3, c4, c5, c6, c7, c8, c9, c10, c11, c12, c13⟩ := four10_of HBK.out
        have q1 : (y.k == 1) = false := by rw [hk]; rfl
        have q2 : (y.k == 2) = false := by rw [hk]; rfl
        have q3 : (y.k == 3) = true := by rw [hk]; rfl
        have q4 : (y.k == 4) = false := by rw [hk]; rfl
        have q5 : (y.k == 5) = false := by rw [hk]; rfl
        clear hk
        go_wp2
        go_meet
        case rel => exact ⟨by rw [HV.out], (box_other _ (by omega)).trans HBK.out, by rw [restM_34 HK.out]; exact heap_setCell_same _ _ _ _ _ _ HRS.out, below_set HB.out (by omega) _ _⟩
      · have hn2 : ¬ (2 : Int) ≤ (y.n : Int) := by omega
        have HV := hid (show okmB y r = false by unfold okmB; rw [if_neg (by omega), if_neg (by omega), if_pos (by omega)]; exact decide_eq_false hn)
        clear hn
        have g11 := cell_blk (i := 11) HRS.out rfl
        have z11 := free_box (i := 11) HRS.out
        obtain ⟨c0, c1, c2, c3, c4, c5, c6, c7, c8, c9, c10, c11, c12, c13⟩ := four10_of HBK.out
        have q1 : (y.k == 1) = false := by rw [hk]; rfl
        have q2 : (y.k == 2) = false := by rw [hk]; rfl
        have q3 : (y.k == 3) = true := by rw [hk]; rfl
        have q4 : (y.k == 4) = false := by rw [hk]; rfl
        have q5 : (y.k == 5) = false := by rw [hk]; rfl
        clear hk
        go_wp2
        go_meet
        case rel => exact ⟨by rw [HV.out], (box_other _ (by omega)).trans HBK.out, by rw [restM_34 HK.out]; exact heap_setCell_same _ _ _ _ _ _ HRS.out, below_set HB.out (by omega) _ _⟩
    by_cases hk4 : y.k = 4
    · have hk := hk4
      have HK := hid (show y.k = 3 ∨ y.k = 4 from .inr hk4)
      clear hk4
      by_cases hn : 2 ≤ y.n
      · have hn2 : (2 : Int) ≤ (y.n : Int) := by omega
        have HV := hid (show okmB y r = true by unfold okmB; rw [if_neg (by omega), if_neg (by omega), if_pos (by omega)]; exact decide_eq_true hn)
        clear hn
        have g11 := cell_blk (i := 11) HRS.out rfl
        have z11 := free_box (i := 11) HRS.out
        obtain ⟨c0, c1, c2, c3, c4, c5, c6, c7, c8, c9, c10, c11, c12, c13⟩ := four10_of HBK.out
        have q1 : (y.k == 1) = false := by rw [hk]; rfl
        have q2 : (y.k == 2) = false := by rw [hk]; rfl
        have q3 : (y.k == 3) = false := by rw [hk]; rfl
        have q4 : (y.k == 4) = true := by rw [hk]; rfl
        have q5 : (y.k == 5) = false := by rw [hk]; rfl
        clear hk
        go_wp2
        go_meet
        case rel => exact ⟨by rw [HV.out], (box_other _ (by omega)).trans HBK.out, by rw [restM_34 HK.out]; exact heap_setCell_same _ _ _ _ _ _ HRS.out, below_set HB.out (by omega) _ _⟩
      · have hn2 : ¬ (2 : Int) ≤ (y.n : Int) := by omega
        have HV := hid (show okmB y r = false by unfold okmB; rw [if_neg (by omega), if_neg (by omega), if_pos (by omega)]; exact decide_eq_false hn)
        clear hn
        have g11 := cell_blk (i := 11) HRS.out rfl
        have z11 := free_box (i := 11) HRS.out
        obtain ⟨c0, c1, c2, c3, c4, c5, c6, c7, c8, c9, c10, c11, c12, c13⟩ := four10_of HBK.out
        have q1 : (y.k == 1) = false := by rw [hk]; rfl
        have q2 : (y.k == 2) = false := by rw [hk]; rfl
        have q3 : (y.k == 3) = false := by rw [hk]; rfl
        have q4 : (y.k == 4) = true := by rw [hk]; rfl
        have q5 : (y.k == 5) = false := by rw [hk]; rfl
        clear hk
        go_wp2
        go_meet
        case rel => exact ⟨by rw [HV.out], (box_other _ (by omega)).trans HBK.out, by rw [restM_34 HK.out]; exact heap_setCell_same _ _ _ _ _ _ HRS.out, below_set HB.out (by omega) _ _⟩
    by_cases hk5 : y.k = 5
    · have hk := hk5
      have HK := hid hk
      clear hk5
      by_cases hn : y.n = 1
      · by_cases hx : y.mx = -1
        · by_cases ha : y.mn = 0
          · have HV := hid (show okmB y r = true by unfold okmB; rw [if_neg (by omega), if_neg (by omega), if_neg (by omega), if_pos hk]; simp [hn, hx, ha])
            have fn : ((y.n : Int) == 1) = true := by simp [hn]
            have fx : (y.mx == -1) = true := by simpa using hx
            have fa : (y.mn == 0) = true := by simpa using ha
            clear hn hx ha
            have g11 := cell_blk (i := 11) HRS.out rfl
            have z11 := free_box (i := 11) HRS.out
            have HR1 := hid (heap_setCell_same _ _ 11 _ _ (.slice none 0 0) HRS.out)
            have g12 := cell_blk (i := 12) HR1.out rfl
            have z12 := free_box (i := 12) HR1.out
            have HR2 := hid (heap_setCell_same _ _ 12 _ _ (.int .i64 0) HR1.out)
            have g13 := cell_blk (i := 13) HR2.out rfl
            have z13 := free_box (i := 13) HR2.out
            have HR3 := hid (heap_setCell_same _ _ 13 _ _ (.int .i64 0) HR2.out)
            have HB3 := hid (((box_other (w := (W2.setCell ⟨w.heap.size + 1, 11, none⟩ (.slice none 0 0)).setCell ⟨w.heap.size + 1, 12, none⟩ (.int .i64 0)) (P := w.heap.size + 1) (i := 13) (.int .i64 0) (by omega)).trans ((box_other (w := W2.setCell ⟨w.heap.size + 1, 11, none⟩ (.slice none 0 0)) (P := w.heap.size + 1) (i := 12) (.int .i64 0) (by omega)).trans (box_other (w := W2) (P := w.heap.size + 1) (i := 11) (.slice none 0 0) (by omega)))).trans HBK.out)
            obtain ⟨c0, c1, c2, c3, c4, c5, c6, c7, c8, c9, c10, c11, c12, c13⟩ := four10_of HB3.out
            have q1 : (y.k == 1) = false := by rw [hk]; rfl
            have q2 : (y.k == 2) = false := by rw [hk]; rfl
            have q3 : (y.k == 3) = false := by rw [hk]; rfl
            have q4 : (y.k == 4) = false := by rw [hk]; rfl
            have q5 : (y.k == 5) = true := by rw [hk]; rfl
            clear hk
            go_wp2
            go_meet
            case rel => exact ⟨by rw [HV.out], HB3.out, by rw [restM_5 HK.out]; exact HR3.out, below_set (below_set (below_set HB.out (by omega) _ _) (by omega) _ _) (by omega) _ _⟩
          · by_cases hb : y.mn = 1
            · have HV := hid (show okmB y r = true by unfold okmB; rw [if_neg (by omega), if_neg (by omega), if_neg (by omega), if_pos hk]; simp [hn, hx, hb])
              have fn : ((y.n : Int) == 1) = true := by simp [hn]
              have fx : (y.mx == -1) = true := by simpa using hx
              have fa : (y.mn == 0) = false := by simpa using ha
              have fb : (y.mn == 1) = true := by simpa using hb
              clear hn hx ha hb
              have g11 := cell_blk (i := 11) HRS.out rfl
              have z11 := free_box (i := 11) HRS.out
              have HR1 := hid (heap_setCell_same _ _ 11 _ _ (.slice none 0 0) HRS.out)
              have g12 := cell_blk (i := 12) HR1.out rfl
              have z12 := free_box (i := 12) HR1.out
              have HR2 := hid (heap_setCell_same _ _ 12 _ _ (.int .i64 0) HR1.out)
              have g13 := cell_blk (i := 13) HR2.out rfl
              have z13 := free_box (i := 13) HR2.out
              have HR3 := hid (heap_setCell_same _ _ 13 _ _ (.int .i64 0) HR2.out)
              have HB3 := hid (((box_other (w := (W2.setCell ⟨w.heap.size + 1, 11, none⟩ (.slice none 0 0)).setCell ⟨w.heap.size + 1, 12, none⟩ (.int .i64 0)) (P := w.heap.size + 1) (i := 13) (.int .i64 0) (by omega)).trans ((box_other (w := W2.setCell ⟨w.heap.size + 1, 11, none⟩ (.slice none 0 0)) (P := w.heap.size + 1) (i := 12) (.int .i64 0) (by omega)).trans (box_other (w := W2) (P := w.heap.size + 1) (i := 11) (.slice none 0 0) (by omega)))).trans HBK.out)
              obtain ⟨c0, c1, c2, c3, c4, c5, c6, c7, c8, c9, c10, c11, c12, c13⟩ := four10_of HB3.out
              have q1 : (y.k == 1) = false := by rw [hk]; rfl
              have q2 : (y.k == 2) = false := by rw [hk]; rfl
              have q3 : (y.k == 3) = false := by rw [hk]; rfl
              have q4 : (y.k == 4) = false := by rw [hk]; rfl
              have q5 : (y.k == 5) = true := by rw [hk]; rfl
              clear hk
              go_wp2
              go_meet
              case rel => exact ⟨by rw [HV.out], HB3.out, by rw [restM_5 HK.out]; exact HR3.out, below_set (below_set (below_set HB.out (by omega) _ _) (by omega) _ _) (by omega) _ _⟩
            · have HV := hid (show okmB y r = false by unfold okmB; rw [if_neg (by omega), if_neg (by omega), if_neg (by omega), if_pos hk]; simp [hn, hx, ha, hb])
              have fn : ((y.n : Int) == 1) = true := by simp [hn]
              have fx : (y.mx == -1) = true := by simpa using hx
              have fa : (y.mn == 0) = false := by simpa using ha
              have fb : (y.mn == 1) = false := by simpa using hb
              clear hn hx ha hb
              have g11 := cell_blk (i := 11) HRS.out rfl
              have z11 := free_box (i := 11) HRS.out
              have HR1 := hid (heap_setCell_same _ _ 11 _ _ (.slice none 0 0) HRS.out)
              have g12 := cell_blk (i := 12) HR1.out rfl
              have z12 := free_box (i := 12) HR1.out
              have HR2 := hid (heap_setCell_same _ _ 12 _ _ (.int .i64 0) HR1.out)
              have g13 := cell_blk (i := 13) HR2.out rfl
              have z13 := free_box (i := 13) HR2.out
              have HR3 := hid (heap_setCell_same _ _ 13 _ _ (.int .i64 0) HR2.out)
              have HB3 := hid (((box_other (w := (W2.setCell ⟨w.heap.size + 1, 11, none⟩ (.slice none 0 0)).setCell ⟨w.heap.size + 1, 12, none⟩ (.int .i64 0)) (P := w.heap.size + 1) (i := 13) (.int .i64 0) (by omega)).trans ((box_other (w := W2.setCell ⟨w.heap.size + 1, 11, none⟩ (.slice none 0 0)) (P := w.heap.size + 1) (i := 12) (.int .i64 0) (by omega)).trans (box_other (w := W2) (P := w.heap.size + 1) (i := 11) (.slice none 0 0) (by omega)))).trans HBK.out)
              obtain ⟨c0, c1, c2, c3, c4, c5, c6, c7, c8, c9, c10, c11, c12, c13⟩ := four10_of HB3.out
              have q1 : (y.k == 1) = false := by rw [hk]; rfl
              have q2 : (y.k == 2) = false := by rw [hk]; rfl
              have q3 : (y.k == 3) = false := by rw [hk]; rfl
              have q4 : (y.k == 4) = false := by rw [hk]; rfl
              have q5 : (y.k == 5) = true := by rw [hk]; rfl
              clear hk
              go_wp2
              go_meet
              case rel => exact ⟨by rw [HV.out], HB3.out, by rw [restM_5 HK.out]; exact HR3.out, below_set (below_set (below_set HB.out (by omega) _ _) (by omega) _ _) (by omega) _ _⟩
        · by_cases ha : y.mn = 0
          · by_cases hc : y.mx = 1
            · have HV := hid (show okmB y r = true by unfold okmB; rw [if_neg (by omega), if_neg (by omega), if_neg (by omega), if_pos hk]; simp [hn, ha, hc])
              have fn : ((y.n : Int) == 1) = true := by simp [hn]
              have fx : (y.mx == -1) = false := by simpa using hx
              have fa : (y.mn == 0) = true := by simpa using ha
              have fc : (y.mx == 1) = true := by simpa using hc
              clear hn hx ha hc
              have g11 := cell_blk (i := 11) HRS.out rfl
              have z11 := free_box (i := 11) HRS.out
              have HR1 := hid (heap_setCell_same _ _ 11 _ _ (.slice none 0 0) HRS.out)
              have g12 := cell_blk (i := 12) HR1.out rfl
              have z12 := free_box (i := 12) HR1.out
              have HR2 := hid (heap_setCell_same _ _ 12 _ _ (.int .i64 0) HR1.out)
              have g13 := cell_blk (i := 13) HR2.out rfl
              have z13 := free_box (i := 13) HR2.out
              have HR3 := hid (heap_setCell_same _ _ 13 _ _ (.int .i64 0) HR2.out)
              have HB3 := hid (((box_other (w := (W2.setCell ⟨w.heap.size + 1, 11, none⟩ (.slice none 0 0)).setCell ⟨w.heap.size + 1, 12, none⟩ (.int .i64 0)) (P := w.heap.size + 1) (i := 13) (.int .i64 0) (by omega)).trans ((box_other (w := W2.setCell ⟨w.heap.size + 1, 11, none⟩ (.slice none 0 0)) (P := w.heap.size + 1) (i := 12) (.int .i64 0) (by omega)).trans (box_other (w := W2) (P := w.heap.size + 1) (i := 11) (.slice none 0 0) (by omega)))).trans HBK.out)
              obtain ⟨c0, c1, c2, c3, c4, c5, c6, c7, c8, c9, c10, c11, c12, c13⟩ := four10_of HB3.out
              have q1 : (y.k == 1) = false := by rw [hk]; rfl
              have q2 : (y.k == 2) = false := by rw [hk]; rfl
              have q3 : (y.k == 3) = false := by rw [hk]; rfl
              have q4 : (y.k == 4) = false := by rw [hk]; rfl
              have q5 : (y.k == 5) = true := by rw [hk]; rfl
              clear hk
              go_wp2
              go_meet
              case rel => exact ⟨by rw [HV.out], HB3.out, by rw [restM_5 HK.out]; exact HR3.out, below_set (below_set (below_set HB.out (by omega) _ _) (by omega) _ _) (by omega) _ _⟩
            · have HV := hid (show okmB y r = false by unfold okmB; rw [if_neg (by omega), if_neg (by omega), if_neg (by omega), if_pos hk]; simp [hn, hx, ha, hc])
              have fn : ((y.n : Int) == 1) = true := by simp [hn]
              have fx : (y.mx == -1) = false := by simpa using hx
              have fa : (y.mn == 0) = true := by simpa using ha
              have fc : (y.mx == 1) = false := by simpa using hc
              clear hn hx ha hc
              have g11 := cell_blk (i := 11) HRS.out rfl
              have z11 := free_box (i := 11) HRS.out
              have HR1 := hid (heap_setCell_same _ _ 11 _ _ (.slice none 0 0) HRS.out)
              have g12 := cell_blk (i := 12) HR1.out rfl
              have z12 := free_box (i := 12) HR1.out
              have HR2 := hid (heap_setCell_same _ _ 12 _ _ (.int .i64 0) HR1.out)
              have g13 := cell_blk (i := 13) HR2.out rfl
              have z13 := free_box (i := 13) HR2.out
              have HR3 := hid (heap_setCell_same _ _ 13 _ _ (.int .i64 0) HR2.out)
              have HB3 := hid (((box_other (w := (W2.setCell ⟨w.heap.size + 1, 11, none⟩ (.slice none 0 0)).setCell ⟨w.heap.size + 1, 12, none⟩ (.int .i64 0)) (P := w.heap.size + 1) (i := 13) (.int .i64 0) (by omega)).trans ((box_other (w := W2.setCell ⟨w.heap.size + 1, 11, none⟩ (.slice none 0 0)) (P := w.heap.size + 1) (i := 12) (.int .i64 0) (by omega)).trans (box_other (w := W2) (P := w.heap.size + 1) (i := 11) (.slice none 0 0) (by omega)))).trans HBK.out)
              obtain ⟨c0, c1, c2, c3, c4, c5, c6, c7, c8, c9, c10, c11, c12, c13⟩ := four10_of HB3.out
              have q1 : (y.k == 1) = false := by rw [hk]; rfl
              have q2 : (y.k == 2) = false := by rw [hk]; rfl
              have q3 : (y.k == 3) = false := by rw [hk]; rfl
              have q4 : (y.k == 4) = false := by rw [hk]; rfl
              have q5 : (y.k == 5) = true := by rw [hk]; rfl
              clear hk
              go_wp2
              go_meet
              case rel => exact ⟨by rw [HV.out], HB3.out, by rw [restM_5 HK.out]; exact HR3.out, below_set (below_set (below_set HB.out (by omega) _ _) (by omega) _ _) (by omega) _ _⟩
          · have HV := hid (show okmB y r = false by unfold okmB; rw [if_neg (by omega), if_neg (by omega), if_neg (by omega), if_pos hk]; simp [hn, hx, ha])
            have fn : ((y.n : Int) == 1) = true := by simp [hn]
            have fx : (y.mx == -1) = false := by simpa using hx
            have fa : (y.mn == 0) = false := by simpa using ha
            clear hn hx ha
            have g11 := cell_blk (i := 11) HRS.out rfl
            have z11 := free_box (i := 11) HRS.out
            have HR1 := hid (heap_setCell_same _ _ 11 _ _ (.slice none 0 0) HRS.out)
            have g12 := cell_blk (i := 12) HR1.out rfl
            have z12 := free_box (i := 12) HR1.out
            have HR2 := hid (heap_setCell_same _ _ 12 _ _ (.int .i64 0) HR1.out)
            have g13 := cell_blk (i := 13) HR2.out rfl
            have z13 := free_box (i := 13) HR2.out
            have HR3 := hid (heap_setCell_same _ _ 13 _ _ (.int .i64 0) HR2.out)
            have HB3 := hid (((box_other (w := (W2.setCell ⟨w.heap.size + 1, 11, none⟩ (.slice none 0 0)).setCell ⟨w.heap.size + 1, 12, none⟩ (.int .i64 0)) (P := w.heap.size + 1) (i := 13) (.int .i64 0) (by omega)).trans ((box_other (w := W2.setCell ⟨w.heap.size + 1, 11, none⟩ (.slice none 0 0)) (P := w.heap.size + 1) (i := 12) (.int .i64 0) (by omega)).trans (box_other (w := W2) (P := w.heap.size + 1) (i := 11) (.slice none 0 0) (by omega)))).trans HBK.out)
            obtain ⟨c0, c1, c2, c3, c4, c5, c6, c7, c8, c9, c10, c11, c12, c13⟩ := four10_of HB3.out
            have q1 : (y.k == 1) = false := by rw [hk]; rfl
            have q2 : (y.k == 2) = false := by rw [hk]; rfl
            have q3 : (y.k == 3) = false := by rw [hk]; rfl
            have q4 : (y.k == 4) = false := by rw [hk]; rfl
            have q5 : (y.k == 5) = true := by rw [hk]; rfl
            clear hk
            go_wp2
            go_meet
            case rel => exact ⟨by rw [HV.out], HB3.out, by rw [restM_5 HK.out]; exact HR3.out, below_set (below_set (below_set HB.out (by omega) _ _) (by omega) _ _) (by omega) _ _⟩
      · have HV := hid (show okmB y r = false by unfold okmB; rw [if_neg (by omega), if_neg (by omega), if_neg (by omega), if_pos hk]; simp [hn])
        have fn : ((y.n : Int) == 1) = false := by rw [beq_eq_false_iff_ne]; omega
        clear hn
        have g11 := cell_blk (i := 11) HRS.out rfl
        have z11 := free_box (i := 11) HRS.out
        have HR1 := hid (heap_setCell_same _ _ 11 _ _ (.slice none 0 0) HRS.out)
        have g12 := cell_blk (i := 12) HR1.out rfl
        have z12 := free_box (i := 12) HR1.out
        have HR2 := hid (heap_setCell_same _ _ 12 _ _ (.int .i64 0) HR1.out)
        have g13 := cell_blk (i := 13) HR2.out rfl
        have z13 := free_box (i := 13) HR2.out
        have HR3 := hid (heap_setCell_same _ _ 13 _ _ (.int .i64 0) HR2.out)
        have HB3 := hid (((box_other (w := (W2.setCell ⟨w.heap.size + 1, 11, none⟩ (.slice none 0 0)).setCell ⟨w.heap.size + 1, 12, none⟩ (.int .i64 0)) (P := w.heap.size + 1) (i := 13) (.int .i64 0) (by omega)).trans ((box_other (w := W2.setCell ⟨w.heap.size + 1, 11, none⟩ (.slice none 0 0)) (P := w.heap.size + 1) (i := 12) (.int .i64 0) (by omega)).trans (box_other (w := W2) (P := w.heap.size + 1) (i := 11) (.slice none 0 0) (by omega)))).trans HBK.out)
        obtain ⟨c0, c1, c2, c3, c4, c5, c6, c7, c8, c9, c10, c11, c12, c13⟩ := four10_of HB3.out
        have q1 : (y.k == 1) = false := by rw [hk]; rfl
        have q2 : (y.k == 2) = false := by rw [hk]; rfl
        have q3 : (y.k == 3) = false := by rw [hk]; rfl
        have q4 : (y.k == 4) = false := by rw [hk]; rfl
        have q5 : (y.k == 5) = true := by rw [hk]; rfl
        clear hk
        go_wp2
        go_meet
        case rel => exact ⟨by rw [HV.out], HB3.out, by rw [restM_5 HK.out]; exact HR3.out, below_set (below_set (below_set HB.out (by omega) _ _) (by omega) _ _) (by omega) _ _⟩
    have HV := hid (show okmB y r = false by unfold okmB; rw [if_neg hk, if_neg hk2, if_neg (by omega), if_neg hk5])
    have HRN := hid (restM_no hk hk2 (by omega) hk5)
    have q1 : (y.k == 1) = false := by simpa using hk
    have q2 : (y.k == 2) = false := by simpa using hk2
    have q3 : (y.k == 3) = false := by simpa using hk3
    have q4 : (y.k == 4) = false := by simpa using hk4
    have q5 : (y.k == 5) = false := by simpa using hk5
    clear hk hk2 hk3 hk4 hk5
    go_wp2
    go_meet
    case rel => exact ⟨by rw [HV.out], HBK.out, by rw [HRN.out]; exact HRS.out, HB.out⟩
  case rest =>
    obtain ⟨rfl, hbox, hrs, hlow⟩ := hcut
    have HBX := hid hbox
    have HLW := hid hlow
    have g0 := cell_blk (i := 0) hrs rfl
    have z0 := free_box (i := 0) hrs
    have HR0 := hid (heap_setCell_same _ _ 0 _ _ (.int .i64 0) hrs)
    have HB0 := hid ((box_other (w := wc) (P := w.heap.size + 1) (i := 0) (.int .i64 0) (by omega)).trans hbox)
    have HL0 := hid (below_set hlow (show w.heap.size ≤ w.heap.size + 1 by omega) 0 (.int .i64 0))
    clear hbox hrs hlow HB HSZ HBK HRS
    obtain ⟨b0, b1, b2, b3, b4, b5, b6, b7, b8, b9, b10, b11, b12, b13⟩ := four10_of (y := ⟨0, (restM y).r, (restM y).o, (restM y).ad, (restM y).n, (restM y).cap, (restM y).mn, (restM y).mx⟩) HR0.out
    have hem := emptyMap_any 0 (restM y).r (restM y).o (restM y).ad (restM y).n (restM y).cap (restM y).mn (restM y).mx (restM_n HYR.out.1) (restM_rn HYR.out.2) (wc.setCell ⟨w.heap.size + 1, 0, none⟩ (.int .i64 0))
    rcases Bool.eq_false_or_eq_true (okmB y r) with hok | hok
    · rw [hok] at hnode ⊢
      rw [Bool.true_and] at hnode
      rcases Bool.eq_false_or_eq_true (emptyMB 0 (restM y).r (restM y).o (restM y).n (restM y).mn (restM y).mx) with hee | hee
      · rw [hee] at hem hnode
        obtain rfl : BN = true := hnode
        clear hok hee
        go_upto_region 21 with fail
        generalize wc.setCell ⟨w.heap.size + 1, 0, none⟩ (.int .i64 0) = W6 at *
        clear g0 z0
        go_upto_region 23 with (go_at_call 85; refine hem.mono ?_; clear hem; rintro e W7 ⟨rfl, hb7⟩; have HB7 := hid (HL0.out.trans (hb7.mono HL0.out.size)); have HBY := hid ((hb7.block w.heap.size (lt_of_heap HB0.out)).trans HB0.out); have hs7 := hb7.size; clear hb7 b0 b1 b2 b3 b4 b5 b6 b7 b8 b9 b10 b11 b12 b13)
        have hbox7 : W7.cell? ⟨w.heap.size, 11, none⟩ = some (.slice y.ad y.n y.cap) := cell_blk (i := 11) HBY.out rfl
        have hsz7 : w.heap.size < W7.heap.size := lt_of_heap HBY.out
        go_wp2_with fail
        go_loopw [92] (fun v wr => ∃ i : Nat, i ≤ y.n ∧ v = .int .i64 i ∧ Hid (∀ p, p ∈ ps.take i → mrightB m p = true) ∧ Below w.heap.size w wr ∧ w.heap.size < wr.heap.size) (fun v _ => y.n - (RowKit.intOf v).toNat)
        case atStart => exact ⟨0, Nat.zero_le _, rfl, by intro p hp; simp at hp, HB7.out, hsz7⟩
        case round =>
          obtain ⟨i, hi, rfl, HS, hwr, hsz⟩ := hrel
          by_cases hlt' : i < y.n
          · have hlt : i < ps.length := Nat.lt_of_lt_of_eq hlt' HPL.out
            obtain ⟨g, off, hyad, hgF, hparts⟩ := HPS.out (by rintro rfl; simp at hlt)
            obtain ⟨z, hr1, hc⟩ := hparts.at (List.getElem?_eq_getElem hlt)
            have hgl := HFW.out g hgF
            obtain ⟨a0, a1, a2, a3, a4, a5, a6, a7, a8, a9, a10, a11, a12, a13⟩ := elem14_of (W := wr) (g := g) (o := off + i * 14) (y := z) fun j v hv => (hwr.cell (p := ⟨g, off + i * 14 + j, none⟩) hgl).trans (hc j v hv)
            have hgi : (i : Int) < (y.n : Int) := by omega
            have hwa : Below w.heap.size w (wr.alloc (.cells z.cs 36)) := hwr.alloc (by omega) _
            have hcall := IH.out ps[i] (List.getElem_mem hlt) F z (wr.alloc (.cells z.cs 36)) (fun g hg => by have := HFW.out g hg; simp; omega) (hr1.below HFW.out hwa)
            have HTS := hid (take_snoc hlt)
            have HM := hid (List.getElem_mem hlt)
            rw [hyad]
            clear hparts hc hr1 hwa hyad
            rcases Bool.eq_false_or_eq_true (mrightB m ps[i]) with hd | hd
            · rw [hd] at hcall
              have hrelS := hid (show ∀ p, p ∈ ps.take (i + 1) → mrightB m p = true from fun p hp => by
                rw [HTS.out] at hp
                rcases List.mem_append.1 hp with hp | hp
                · exact HS.out p hp
                · rw [List.mem_singleton.1 hp]; exact hd)
              clear hd
              go_wp2_with (go_at_call 55; refine hcall.mono ?_; clear hcall; rintro e w3 ⟨rfl, hb3⟩)
              go_roundw
              case rel => first
                | exact ⟨i + 1, by omega, by go_num, hrelS, (hwr.alloc (by omega) _).trans (hb3.mono (by simp; omega)), by have := hb3.size; simp at this; omega⟩
                | (repeat apply Exists.intro
                   refine And.intro ?_ rfl
                   exact ⟨i + 1, by omega, by go_num, hrelS, (hwr.alloc (by omega) _).trans (hb3.mono (by simp; omega)), by have := hb3.size; simp at this; omega⟩)
              case measure => simp [RowKit.intOf]; omega
            · rw [hd] at hcall
              have HD := hid hd
              clear hd
              go_wp2_with (go_at_call 55; refine hcall.mono ?_; clear hcall; rintro e w3 ⟨rfl, hb3⟩)
              go_ret
              exact ⟨bool_eq (by rw [Bool.true_and]; exact (List.all_eq_false.2 ⟨_, HM.out, by rw [HD.out]; simp⟩).symm), (hwr.alloc (by omega) _).trans (hb3.mono (by simp; omega))⟩
          · obtain rfl : i = y.n := by omega
            go_wp2
            go_ret
            exact ⟨bool_eq (by rw [Bool.true_and]; exact (List.all_eq_true.2 fun p hp => HS.out p (by rw [HPL.out, List.take_length]; exact hp)).symm), hwr⟩
      · rw [hee] at hem hnode
        obtain rfl : BN = false := hnode
        clear hok hee
        go_upto_region 21 with fail
        generalize wc.setCell ⟨w.heap.size + 1, 0, none⟩ (.int .i64 0) = W6 at *
        clear g0 z0
        go_wp2_with (go_at_call 85; refine hem.mono ?_; clear hem; rintro e W7 ⟨rfl, hb7⟩; have HB7 := hid (HL0.out.trans (hb7.mono HL0.out.size)); clear hb7)
        go_ret
        exact ⟨bool_eq (by simp), HB7.out⟩
    · rw [hok] at hnode ⊢
      rw [Bool.false_and] at hnode
      obtain rfl : BN = false := hnode
      clear hok hem
      go_wp2
      go_ret
      exact ⟨bool_eq (by simp), HL0.out⟩
end Go.Proofs.YtfljcfdfgojdoaaGreatDoor.Sh
