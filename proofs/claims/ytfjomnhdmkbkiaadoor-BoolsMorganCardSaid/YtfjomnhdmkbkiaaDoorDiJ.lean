/-
  The walk of BoolsMorgan.
-/
import Derived.Test.YtfjomnhdmkbkiaaDoorDiQ
namespace Go.Proofs.YtfjomnhdmkbkiaaDoor.Im
open Go.RowKit Go.Lib Go.Maps Go.Shelf

theorem join_like_ok {f : Bool → Bool → Bool} (g : Bool → Bool → Bool) {a b a' b' d : Dfa} (h : joinM f a b = .ok d) (ha' : dfaOk a' = true) (hb' : dfaOk b' = true) (e1 : a'.cls = a.cls) (e2 : a'.next = a.next) (e3 : b'.cls = b.cls) (e4 : b'.next = b.next) : ∃ d', joinM g a' b' = .ok d' ∧ d'.cls = d.cls ∧ d'.next = d.next := by
  obtain ⟨ha, hb⟩ := join_ok h
  rcases join_like f g ha hb ha' hb' e1 e2 e3 e4 with ⟨d1, d', k1, k2, k3, k4⟩ | ⟨e, k1, _⟩
  · rw [h] at k1; cases k1
    exact ⟨d', k2, k3, k4⟩
  · rw [h] at k1; cases k1
/-- what Morgan's automatons are, where the first is made -/
theorem morgan_ok {a b dx : Dfa} (h : joinM (fun x y => x && y) a b = .ok dx) : ∃ dy dz dc dd dn dq dp : Dfa, joinM (fun x y => x || y) a b = .ok dy ∧ joinM (fun x y => x != y) a b = .ok dz ∧ notM a = .ok dc ∧ notM b = .ok dd ∧ notM dx = .ok dn ∧ joinM (fun x y => x || y) dc dd = .ok dq ∧ joinM (fun x y => x && !y) dy dx = .ok dp ∧
    ∀ w, takesM dn w = (!((takesM a w).1 && (takesM b w).1), 0) ∧ takesM dq w = (!(takesM a w).1 || !(takesM b w).1, 0) ∧ takesM dz w = ((takesM a w).1 != (takesM b w).1, 0) ∧ takesM dp w = (((takesM a w).1 || (takesM b w).1) && !((takesM a w).1 && (takesM b w).1), 0) := by
  obtain ⟨ha, hb⟩ := join_ok h
  have hx := join_law h
  obtain ⟨dy, hy, c1, c2⟩ := join_like_ok (fun x y => x || y) h ha hb rfl rfl rfl rfl
  obtain ⟨dz, hz, _, _⟩ := join_like_ok (fun x y => x != y) h ha hb rfl rfl rfl rfl
  obtain ⟨dc, hc⟩ := not_some ha
  obtain ⟨dd, hd⟩ := not_some hb
  obtain ⟨dn, hn⟩ := not_some hx.1
  obtain ⟨_, hc1, hc2, hc3, _, hc5⟩ := not_law hc
  obtain ⟨_, hd1, hd2, hd3, _, hd5⟩ := not_law hd
  obtain ⟨_, hn1, hn2, hn3, _, hn5⟩ := not_law hn
  obtain ⟨dq, hq, _, _⟩ := join_like_ok (fun x y => x || y) h hc1 hd1 hc2 hc3 hd2 hd3
  have hy' := join_law hy
  obtain ⟨dp, hp, _, _⟩ := join_self (fun x y => x && !y) hy'.1 hx.1 c1.symm c2.symm
  have hz' := join_law hz
  have hq' := join_law hq
  have hp' := join_law hp
  refine ⟨dy, dz, dc, dd, dn, dq, dp, hy, hz, hc, hd, hn, hq, hp, fun w => ⟨?_, ?_, ?_, ?_⟩⟩
  · rw [hn5 w, hx.2 w]
  · rw [hq'.2 w, hc5 w, hd5 w]
  · rw [hz'.2 w]
  · rw [hp'.2 w, hy'.2 w, hx.2 w]
/-- .. and where it is not -/
theorem morgan_bad {a b : Dfa} {er : Int} (h : joinM (fun x y => x && y) a b = .error er) : (er = 1 ∨ er = 2) ∧ joinM (fun x y => x || y) a b = .error er ∧ joinM (fun x y => x != y) a b = .error er := by
  by_cases hab : dfaOk a = true ∧ dfaOk b = true
  · obtain ⟨ha, hb⟩ := hab
    refine ⟨.inr (join_err ha hb h), ?_, ?_⟩
    · rcases join_like (fun x y => x && y) (fun x y => x || y) ha hb ha hb rfl rfl rfl rfl with ⟨d1, dy, e1, _⟩ | ⟨e, e1, e2⟩
      · rw [h] at e1; cases e1
      · rw [h] at e1; cases e1; exact e2
    · rcases join_like (fun x y => x && y) (fun x y => x != y) ha hb ha hb rfl rfl rfl rfl with ⟨d1, dy, e1, _⟩ | ⟨e, e1, e2⟩
      · rw [h] at e1; cases e1
      · rw [h] at e1; cases e1; exact e2
  · rw [join_bad _ hab] at h
    cases h
    exact ⟨.inl rfl, join_bad _ hab, join_bad _ hab⟩
set_option maxRecDepth 100000 in
set_option maxHeartbeats 16000000 in
theorem morgan_walk {F G : Nat → Prop} {w : World} {a1 a2 a3 b1 b2 b3 : Value} {a b : Dfa} (ha : DfaIn F w a1 a2 a3 a) (hb : DfaIn G w b1 b2 b3 b) (hF : ∀ g, F g → g < w.heap.size) (hG : ∀ g, G g → g < w.heap.size) (t : ByteArray) (ht : t.size ≤ 140737488351232) (hT : Tab w) :
    Calls Tryd.prog 11 #[.agg #[a1, a2, a3], .agg #[b1, b2, b3], .string t] w (AwPost w) := by
  obtain ⟨W0, hW0⟩ : ∃ W0, W0 = (w.alloc (.cells #[a1, a2, a3] 30)).alloc (.cells #[b1, b2, b3] 30) := ⟨_, rfl⟩
  have hA0 : W0.heap[w.heap.size]? = some (.cells #[a1, a2, a3] 30 (0, 0)) := by rw [hW0]; exact (alloc_old (by simp)).trans (heap_alloc_new _ _)
  have hC0 : W0.heap[w.heap.size + 1]? = some (.cells #[b1, b2, b3] 30 (0, 0)) := by rw [hW0]; exact newB _ _ _
  have hB0 : Below w.heap.size w W0 := by rw [hW0]; exact ((Below.refl _ _).alloc (Nat.le_refl _) _).alloc (by simp) _
  have hz0 : W0.heap.size = w.heap.size + 2 := by rw [hW0]; simp
  obtain ⟨ada, cpa, rfl, hma, _⟩ := ha.cls
  obtain ⟨adb, cpb, rfl, hmb, _⟩ := ha.next
  obtain ⟨adc, cpc, rfl, hmc, _⟩ := ha.fin
  obtain ⟨ada', cpa', rfl, hma', _⟩ := hb.cls
  obtain ⟨adb', cpb', rfl, hmb', _⟩ := hb.next
  obtain ⟨adc', cpc', rfl, hmc', _⟩ := hb.fin
  unfold maxLen at hma hmb hmc hma' hmb' hmc'
  have Ha := hid (ABox.arg (L := w.heap.size + 2) ha hF hB0 hA0 (by omega) (by omega) (by omega))
  have Hb := hid (ABox.arg (L := w.heap.size + 2) hb hG hB0 hC0 (by omega) (by omega) (by omega))
  have HB := hid hB0
  have HT := hid (fun (W : World) (h : Below w.heap.size w W) => (show Tab W from hT.below h))
  have HW0 := hid hW0
  clear ha hb hF hG hT hA0 hC0 hB0 hW0 hz0
  obtain ⟨p00, p01, p02⟩ := Ha.out.cells
  obtain ⟨p10, p11, p12⟩ := Hb.out.cells
  have hc := few_shows Ha.out.dfa Ha.out.fits
  go_enter Tryd.func11, Tryd.ntmps11
  go_upto_region 1 with fail
  rw [← HW0.out]
  clear HW0
  go_wp2_with fail
  refine hc.mono ?_
  clear hc p00 p01 p02 p10 p11 p12
  rintro e w0 ⟨⟨xa, rfl, hfa⟩, hb⟩
  have Ha := hid (Ha.out.below (hb.mono Ha.out.le))
  have Hb := hid (Hb.out.below (hb.mono Hb.out.le))
  have HB := hid (HB.out.trans (hb.mono HB.out.size))
  have HFA := hid hfa
  clear hb hfa
  cases xa with
  | false =>
    go_wp2_with fail
    go_ret
    exact ⟨rfl, HB.out⟩
  | true =>
  have hna := (HFA.out rfl).1
  obtain ⟨p10, p11, p12⟩ := Hb.out.cells
  have hc := few_shows Hb.out.dfa Hb.out.fits
  go_wp2_with fail
  refine hc.mono ?_
  clear hc p10 p11 p12
  rintro e w1 ⟨⟨xb, rfl, hfb⟩, hb⟩
  have Ha := hid (Ha.out.below (hb.mono Ha.out.le))
  have Hb := hid (Hb.out.below (hb.mono Hb.out.le))
  have HB := hid (HB.out.trans (hb.mono HB.out.size))
  have HFB := hid hfb
  clear hb hfb HFA
  cases xb with
  | false =>
    go_wp2_with fail
    go_ret
    exact ⟨rfl, HB.out⟩
  | true =>
  have hnb := (HFB.out rfl).1
  clear HFB
  obtain ⟨p00, p01, p02⟩ := Ha.out.cells
  obtain ⟨p10, p11, p12⟩ := Hb.out.cells
  obtain ⟨na, hna'⟩ : ∃ n, n = a.next.length := ⟨_, rfl⟩
  obtain ⟨nb, hnb'⟩ : ∃ n, n = b.next.length := ⟨_, rfl⟩
  by_cases hp : 200 < a.next.length * b.next.length
  · have hw1 : a.next.length * b.next.length ≤ 1600 := Nat.mul_le_mul hna hnb
    have hw2 : (200 : Int) < (a.next.length : Int) * (b.next.length : Int) := by rw [← Int.natCast_mul]; omega
    have hw3 : (a.next.length : Int) * (b.next.length : Int) ≤ 1600 := by rw [← Int.natCast_mul]; omega
    have hw4 : IntKind.i64.wrap ((a.next.length : Int) * (b.next.length : Int)) = (a.next.length : Int) * (b.next.length : Int) := IntWalk.i64_in _ (by omega)
    go_wp2_with fail
    go_ret
    exact ⟨rfl, HB.out⟩
  have hw1 : a.next.length * b.next.length ≤ 200 := by omega
  have hw2 : ¬ (200 : Int) < (a.next.length : Int) * (b.next.length : Int) := by rw [← Int.natCast_mul]; omega
  have hw3 : 0 ≤ (a.next.length : Int) * (b.next.length : Int) := by rw [← Int.natCast_mul]; omega
  by_cases h100 : 100 < t.size
  · have h100' : (100 : Int) < (t.size : Int) := by omega
    go_wp2_with fail
    go_ret
    exact ⟨rfl, HB.out⟩
  have h100' : ¬ ((100 : Int) < (t.size : Int)) := by omega
  go_upto_region 3 with fail
  have h1000 : t.size ≤ 1000 := by omega
  clear hp hw1 hw2 hw3 h100 h100' p00 p01 p02 p10 p11 p12 hna' hnb' hna hnb
  cases hj : joinM (fun x y => x && y) a b with
  | error er =>
    obtain ⟨her, hj2, hj3⟩ := morgan_bad hj
    have HJ1 := hid hj
    have HJ2 := hid hj2
    have HJ3 := hid hj3
    have HER := hid her
    clear hj hj2 hj3 her
    obtain ⟨p00, p01, p02⟩ := Ha.out.cells
    obtain ⟨p10, p11, p12⟩ := Hb.out.cells
    have hc := bAnd_any Ha.out.dfa Hb.out.dfa Ha.out.fits Hb.out.fits (HT.out _ HB.out)
    rw [HJ1.out] at hc
    go_wp2_with fail
    refine hc.mono ?_
    clear hc p00 p01 p02 p10 p11 p12
    rintro e w2 hp
    obtain ⟨x1, c1, x2, c2, x3, c3, rfl, hd, hb⟩ := hp.open'
    rw [show outX (Except.error er) = (Dfa.zero, er) from rfl] at hd ⊢
    dsimp only at hd ⊢
    have Ha := hid (Ha.out.below (hb.mono Ha.out.le))
    have Hb := hid (Hb.out.below (hb.mono Hb.out.le))
    have HB := hid (HB.out.trans (hb.mono HB.out.size))
    clear hd hb hp
    go_upto_region 4 with fail
    generalize hW : w2.alloc (.cells #[.slice x1 Dfa.zero.cls.length c1, .slice x2 Dfa.zero.next.length c2, .slice x3 Dfa.zero.fin.length c3] 30) = v2 at *
    have hb : Below w2.heap.size w2 v2 := by rw [← hW]; exact (Below.refl _ _).alloc (Nat.le_refl _) _
    have Ha := hid (Ha.out.below (hb.mono Ha.out.le))
    have Hb := hid (Hb.out.below (hb.mono Hb.out.le))
    have HB := hid (HB.out.trans (hb.mono HB.out.size))
    clear hW hb
    obtain ⟨p00, p01, p02⟩ := Ha.out.cells
    obtain ⟨p10, p11, p12⟩ := Hb.out.cells
    have hc := bOr_any Ha.out.dfa Hb.out.dfa Ha.out.fits Hb.out.fits (HT.out _ HB.out)
    rw [HJ2.out] at hc
    go_wp2_with fail
    refine hc.mono ?_
    clear hc p00 p01 p02 p10 p11 p12
    rintro e w3 hp
    obtain ⟨x1, c1, x2, c2, x3, c3, rfl, hd, hb⟩ := hp.open'
    rw [show outX (Except.error er) = (Dfa.zero, er) from rfl] at hd ⊢
    dsimp only at hd ⊢
    have Ha := hid (Ha.out.below (hb.mono Ha.out.le))
    have Hb := hid (Hb.out.below (hb.mono Hb.out.le))
    have HB := hid (HB.out.trans (hb.mono HB.out.size))
    clear hd hb hp
    go_upto_region 5 with fail
    generalize hW : w3.alloc (.cells #[.slice x1 Dfa.zero.cls.length c1, .slice x2 Dfa.zero.next.length c2, .slice x3 Dfa.zero.fin.length c3] 30) = v3 at *
    have hb : Below w3.heap.size w3 v3 := by rw [← hW]; exact (Below.refl _ _).alloc (Nat.le_refl _) _
    have Ha := hid (Ha.out.below (hb.mono Ha.out.le))
    have Hb := hid (Hb.out.below (hb.mono Hb.out.le))
    have HB := hid (HB.out.trans (hb.mono HB.out.size))
    clear hW hb
    obtain ⟨p00, p01, p02⟩ := Ha.out.cells
    obtain ⟨p10, p11, p12⟩ := Hb.out.cells
    have hc := bApart_any Ha.out.dfa Hb.out.dfa Ha.out.fits Hb.out.fits (HT.out _ HB.out)
    rw [HJ3.out] at hc
    go_wp2_with fail
    refine hc.mono ?_
    clear hc p00 p01 p02 p10 p11 p12
    rintro e w4 hp
    obtain ⟨x1, c1, x2, c2, x3, c3, rfl, hd, hb⟩ := hp.open'
    rw [show outX (Except.error er) = (Dfa.zero, er) from rfl] at hd ⊢
    dsimp only at hd ⊢
    have Ha := hid (Ha.out.below (hb.mono Ha.out.le))
    have Hb := hid (Hb.out.below (hb.mono Hb.out.le))
    have HB := hid (HB.out.trans (hb.mono HB.out.size))
    clear hd hb hp
    go_upto_region 6 with fail
    generalize hW : w4.alloc (.cells #[.slice x1 Dfa.zero.cls.length c1, .slice x2 Dfa.zero.next.length c2, .slice x3 Dfa.zero.fin.length c3] 30) = v4 at *
    have hb : Below w4.heap.size w4 v4 := by rw [← hW]; exact (Below.refl _ _).alloc (Nat.le_refl _) _
    have Ha := hid (Ha.out.below (hb.mono Ha.out.le))
    have Hb := hid (Hb.out.below (hb.mono Hb.out.le))
    have HB := hid (HB.out.trans (hb.mono HB.out.size))
    clear hW hb
    obtain ⟨p00, p01, p02⟩ := Ha.out.cells
    have hc := bnot_any Ha.out.dfa Ha.out.fits
    go_wp2_with fail
    refine hc.mono ?_
    clear hc p00 p01 p02
    rintro e w5 hp
    obtain ⟨x1, c1, x2, c2, x3, c3, rfl, hd, hb⟩ := hp.open'
    generalize outX (notM a) = ox at *
    obtain ⟨od, oe⟩ := ox
    dsimp only at hd ⊢
    have Ha := hid (Ha.out.below (hb.mono Ha.out.le))
    have Hb := hid (Hb.out.below (hb.mono Hb.out.le))
    have HB := hid (HB.out.trans (hb.mono HB.out.size))
    clear hd hb hp
    go_upto_region 7 with fail
    generalize hW : w5.alloc (.cells #[.slice x1 od.cls.length c1, .slice x2 od.next.length c2, .slice x3 od.fin.length c3] 30) = v5 at *
    have hb : Below w5.heap.size w5 v5 := by rw [← hW]; exact (Below.refl _ _).alloc (Nat.le_refl _) _
    have Ha := hid (Ha.out.below (hb.mono Ha.out.le))
    have Hb := hid (Hb.out.below (hb.mono Hb.out.le))
    have HB := hid (HB.out.trans (hb.mono HB.out.size))
    clear hW hb
    obtain ⟨p00, p01, p02⟩ := Hb.out.cells
    have hc := bnot_any Hb.out.dfa Hb.out.fits
    go_wp2_with fail
    refine hc.mono ?_
    clear hc p00 p01 p02
    rintro e w6 hp
    obtain ⟨x1, c1, x2, c2, x3, c3, rfl, hd, hb⟩ := hp.open'
    generalize outX (notM b) = ox at *
    obtain ⟨od, oe⟩ := ox
    dsimp only at hd ⊢
    have Ha := hid (Ha.out.below (hb.mono Ha.out.le))
    have Hb := hid (Hb.out.below (hb.mono Hb.out.le))
    have HB := hid (HB.out.trans (hb.mono HB.out.size))
    clear hd hb hp
    go_upto_region 8 with fail
    generalize hW : w6.alloc (.cells #[.slice x1 od.cls.length c1, .slice x2 od.next.length c2, .slice x3 od.fin.length c3] 30) = v6 at *
    have hb : Below w6.heap.size w6 v6 := by rw [← hW]; exact (Below.refl _ _).alloc (Nat.le_refl _) _
    have Ha := hid (Ha.out.below (hb.mono Ha.out.le))
    have Hb := hid (Hb.out.below (hb.mono Hb.out.le))
    have HB := hid (HB.out.trans (hb.mono HB.out.size))
    clear hW hb
    rcases HER.out with rfl | rfl
    · skip
      have haw := awake12_any _ (HT.out _ HB.out)
      go_wp2_with fail
      refine haw.mono ?_
      clear haw
      rintro e w7 ⟨rfl, hb⟩
      have HB := hid (HB.out.trans (hb.mono HB.out.size))
      clear hb
      go_wp2_with fail
      go_ret
      exact ⟨rfl, HB.out⟩
    · skip
      have haw := awake12_any _ (HT.out _ HB.out)
      go_wp2_with fail
      refine haw.mono ?_
      clear haw
      rintro e w7 ⟨rfl, hb⟩
      have HB := hid (HB.out.trans (hb.mono HB.out.size))
      clear hb
      go_wp2_with fail
      go_ret
      exact ⟨rfl, HB.out⟩
  | ok dx =>
    obtain ⟨dy, dz, dc, dd, dn, dq, dp, k1, k2, k3, k4, k5, k6, k7, hk⟩ := morgan_ok hj
    obtain ⟨t1, t2, t3, t4⟩ := hk t.data.toList
    have K0 := hid hj
    have K1 := hid k1
    have K2 := hid k2
    have K3 := hid k3
    have K4 := hid k4
    have K5 := hid k5
    have K6 := hid k6
    have K7 := hid k7
    generalize (takesM a t.data.toList).1 = A at *
    generalize (takesM b t.data.toList).1 = B at *
    have T1 := hid t1
    have T2 := hid t2
    have T3 := hid t3
    have T4 := hid t4
    clear hj k1 k2 k3 k4 k5 k6 k7 hk t1 t2 t3 t4
    obtain ⟨p00, p01, p02⟩ := Ha.out.cells
    obtain ⟨p10, p11, p12⟩ := Hb.out.cells
    have hc := bAnd_any Ha.out.dfa Hb.out.dfa Ha.out.fits Hb.out.fits (HT.out _ HB.out)
    rw [K0.out] at hc
    go_wp2_with fail
    refine hc.mono ?_
    clear hc p00 p01 p02 p10 p11 p12
    rintro e w2 hp
    obtain ⟨x1, c1, x2, c2, x3, c3, rfl, hd, hb⟩ := hp.open'
    rw [show outX (Except.ok dx) = (dx, 0) from rfl] at hd ⊢
    dsimp only at hd ⊢
    have HD := hid hd
    have Ha := hid (Ha.out.below (hb.mono Ha.out.le))
    have Hb := hid (Hb.out.below (hb.mono Hb.out.le))
    have HB := hid (HB.out.trans (hb.mono HB.out.size))
    clear hd hb hp
    go_upto_region 4 with fail
    have hA := ABox.new HD.out
    generalize hW : w2.alloc (.cells #[.slice x1 dx.cls.length c1, .slice x2 dx.next.length c2, .slice x3 dx.fin.length c3] 30) = v2 at *
    have hb : Below w2.heap.size w2 v2 := by rw [← hW]; exact (Below.refl _ _).alloc (Nat.le_refl _) _
    have Hx := hid hA
    have Ha := hid (Ha.out.below (hb.mono Ha.out.le))
    have Hb := hid (Hb.out.below (hb.mono Hb.out.le))
    have HB := hid (HB.out.trans (hb.mono HB.out.size))
    clear hW HD hA hb
    obtain ⟨p00, p01, p02⟩ := Ha.out.cells
    obtain ⟨p10, p11, p12⟩ := Hb.out.cells
    have hc := bOr_any Ha.out.dfa Hb.out.dfa Ha.out.fits Hb.out.fits (HT.out _ HB.out)
    rw [K1.out] at hc
    go_wp2_with fail
    refine hc.mono ?_
    clear hc p00 p01 p02 p10 p11 p12
    rintro e w3 hp
    obtain ⟨x1, c1, x2, c2, x3, c3, rfl, hd, hb⟩ := hp.open'
    rw [show outX (Except.ok dy) = (dy, 0) from rfl] at hd ⊢
    dsimp only at hd ⊢
    have HD := hid hd
    have Ha := hid (Ha.out.below (hb.mono Ha.out.le))
    have Hb := hid (Hb.out.below (hb.mono Hb.out.le))
    have Hx := hid (Hx.out.below (hb.mono Hx.out.le))
    have HB := hid (HB.out.trans (hb.mono HB.out.size))
    clear hd hb hp
    go_upto_region 5 with fail
    have hA := ABox.new HD.out
    generalize hW : w3.alloc (.cells #[.slice x1 dy.cls.length c1, .slice x2 dy.next.length c2, .slice x3 dy.fin.length c3] 30) = v3 at *
    have hb : Below w3.heap.size w3 v3 := by rw [← hW]; exact (Below.refl _ _).alloc (Nat.le_refl _) _
    have Hy := hid hA
    have Ha := hid (Ha.out.below (hb.mono Ha.out.le))
    have Hb := hid (Hb.out.below (hb.mono Hb.out.le))
    have Hx := hid (Hx.out.below (hb.mono Hx.out.le))
    have HB := hid (HB.out.trans (hb.mono HB.out.size))
    clear hW HD hA hb
    obtain ⟨p00, p01, p02⟩ := Ha.out.cells
    obtain ⟨p10, p11, p12⟩ := Hb.out.cells
    have hc := bApart_any Ha.out.dfa Hb.out.dfa Ha.out.fits Hb.out.fits (HT.out _ HB.out)
    rw [K2.out] at hc
    go_wp2_with fail
    refine hc.mono ?_
    clear hc p00 p01 p02 p10 p11 p12
    rintro e w4 hp
    obtain ⟨x1, c1, x2, c2, x3, c3, rfl, hd, hb⟩ := hp.open'
    rw [show outX (Except.ok dz) = (dz, 0) from rfl] at hd ⊢
    dsimp only at hd ⊢
    have HD := hid hd
    have Ha := hid (Ha.out.below (hb.mono Ha.out.le))
    have Hb := hid (Hb.out.below (hb.mono Hb.out.le))
    have Hx := hid (Hx.out.below (hb.mono Hx.out.le))
    have Hy := hid (Hy.out.below (hb.mono Hy.out.le))
    have HB := hid (HB.out.trans (hb.mono HB.out.size))
    clear hd hb hp
    go_upto_region 6 with fail
    have hA := ABox.new HD.out
    generalize hW : w4.alloc (.cells #[.slice x1 dz.cls.length c1, .slice x2 dz.next.length c2, .slice x3 dz.fin.length c3] 30) = v4 at *
    have hb : Below w4.heap.size w4 v4 := by rw [← hW]; exact (Below.refl _ _).alloc (Nat.le_refl _) _
    have Hz := hid hA
    have Ha := hid (Ha.out.below (hb.mono Ha.out.le))
    have Hb := hid (Hb.out.below (hb.mono Hb.out.le))
    have Hx := hid (Hx.out.below (hb.mono Hx.out.le))
    have Hy := hid (Hy.out.below (hb.mono Hy.out.le))
    have HB := hid (HB.out.trans (hb.mono HB.out.size))
    clear hW HD hA hb
    obtain ⟨p00, p01, p02⟩ := Ha.out.cells
    have hc := bnot_any Ha.out.dfa Ha.out.fits
    rw [K3.out] at hc
    go_wp2_with fail
    refine hc.mono ?_
    clear hc p00 p01 p02
    rintro e w5 hp
    obtain ⟨x1, c1, x2, c2, x3, c3, rfl, hd, hb⟩ := hp.open'
    rw [show outX (Except.ok dc) = (dc, 0) from rfl] at hd ⊢
    dsimp only at hd ⊢
    have HD := hid hd
    have Ha := hid (Ha.out.below (hb.mono Ha.out.le))
    have Hb := hid (Hb.out.below (hb.mono Hb.out.le))
    have Hx := hid (Hx.out.below (hb.mono Hx.out.le))
    have Hy := hid (Hy.out.below (hb.mono Hy.out.le))
    have Hz := hid (Hz.out.below (hb.mono Hz.out.le))
    have HB := hid (HB.out.trans (hb.mono HB.out.size))
    clear hd hb hp
    go_upto_region 7 with fail
    have hA := ABox.new HD.out
    generalize hW : w5.alloc (.cells #[.slice x1 dc.cls.length c1, .slice x2 dc.next.length c2, .slice x3 dc.fin.length c3] 30) = v5 at *
    have hb : Below w5.heap.size w5 v5 := by rw [← hW]; exact (Below.refl _ _).alloc (Nat.le_refl _) _
    have Hc := hid hA
    have Ha := hid (Ha.out.below (hb.mono Ha.out.le))
    have Hb := hid (Hb.out.below (hb.mono Hb.out.le))
    have Hx := hid (Hx.out.below (hb.mono Hx.out.le))
    have Hy := hid (Hy.out.below (hb.mono Hy.out.le))
    have Hz := hid (Hz.out.below (hb.mono Hz.out.le))
    have HB := hid (HB.out.trans (hb.mono HB.out.size))
    clear hW HD hA hb
    obtain ⟨p00, p01, p02⟩ := Hb.out.cells
    have hc := bnot_any Hb.out.dfa Hb.out.fits
    rw [K4.out] at hc
    go_wp2_with fail
    refine hc.mono ?_
    clear hc p00 p01 p02
    rintro e w6 hp
    obtain ⟨x1, c1, x2, c2, x3, c3, rfl, hd, hb⟩ := hp.open'
    rw [show outX (Except.ok dd) = (dd, 0) from rfl] at hd ⊢
    dsimp only at hd ⊢
    have HD := hid hd
    have Ha := hid (Ha.out.below (hb.mono Ha.out.le))
    have Hb := hid (Hb.out.below (hb.mono Hb.out.le))
    have Hx := hid (Hx.out.below (hb.mono Hx.out.le))
    have Hy := hid (Hy.out.below (hb.mono Hy.out.le))
    have Hz := hid (Hz.out.below (hb.mono Hz.out.le))
    have Hc := hid (Hc.out.below (hb.mono Hc.out.le))
    have HB := hid (HB.out.trans (hb.mono HB.out.size))
    clear hd hb hp
    go_upto_region 8 with fail
    have hA := ABox.new HD.out
    generalize hW : w6.alloc (.cells #[.slice x1 dd.cls.length c1, .slice x2 dd.next.length c2, .slice x3 dd.fin.length c3] 30) = v6 at *
    have hb : Below w6.heap.size w6 v6 := by rw [← hW]; exact (Below.refl _ _).alloc (Nat.le_refl _) _
    have Hd := hid hA
    have Ha := hid (Ha.out.below (hb.mono Ha.out.le))
    have Hb := hid (Hb.out.below (hb.mono Hb.out.le))
    have Hx := hid (Hx.out.below (hb.mono Hx.out.le))
    have Hy := hid (Hy.out.below (hb.mono Hy.out.le))
    have Hz := hid (Hz.out.below (hb.mono Hz.out.le))
    have Hc := hid (Hc.out.below (hb.mono Hc.out.le))
    have HB := hid (HB.out.trans (hb.mono HB.out.size))
    clear hW HD hA hb
    obtain ⟨p00, p01, p02⟩ := Hx.out.cells
    have hc := bnot_any Hx.out.dfa Hx.out.fits
    rw [K5.out] at hc
    go_wp2_with fail
    refine hc.mono ?_
    clear hc p00 p01 p02
    rintro e w7 hp
    obtain ⟨x1, c1, x2, c2, x3, c3, rfl, hd, hb⟩ := hp.open'
    rw [show outX (Except.ok dn) = (dn, 0) from rfl] at hd ⊢
    dsimp only at hd ⊢
    have HD := hid hd
    have Ha := hid (Ha.out.below (hb.mono Ha.out.le))
    have Hb := hid (Hb.out.below (hb.mono Hb.out.le))
    have Hx := hid (Hx.out.below (hb.mono Hx.out.le))
    have Hy := hid (Hy.out.below (hb.mono Hy.out.le))
    have Hz := hid (Hz.out.below (hb.mono Hz.out.le))
    have Hc := hid (Hc.out.below (hb.mono Hc.out.le))
    have Hd := hid (Hd.out.below (hb.mono Hd.out.le))
    have HB := hid (HB.out.trans (hb.mono HB.out.size))
    clear hd hb hp
    go_upto_region 11 with fail
    have hA := ABox.new HD.out
    generalize hW : w7.alloc (.cells #[.slice x1 dn.cls.length c1, .slice x2 dn.next.length c2, .slice x3 dn.fin.length c3] 30) = v7 at *
    have hb : Below w7.heap.size w7 v7 := by rw [← hW]; exact (Below.refl _ _).alloc (Nat.le_refl _) _
    have Hn := hid hA
    have Ha := hid (Ha.out.below (hb.mono Ha.out.le))
    have Hb := hid (Hb.out.below (hb.mono Hb.out.le))
    have Hx := hid (Hx.out.below (hb.mono Hx.out.le))
    have Hy := hid (Hy.out.below (hb.mono Hy.out.le))
    have Hz := hid (Hz.out.below (hb.mono Hz.out.le))
    have Hc := hid (Hc.out.below (hb.mono Hc.out.le))
    have Hd := hid (Hd.out.below (hb.mono Hd.out.le))
    have HB := hid (HB.out.trans (hb.mono HB.out.size))
    clear hW HD hA hb
    obtain ⟨p00, p01, p02⟩ := Hc.out.cells
    obtain ⟨p10, p11, p12⟩ := Hd.out.cells
    have hc := bOr_any Hc.out.dfa Hd.out.dfa Hc.out.fits Hd.out.fits (HT.out _ HB.out)
    rw [K6.out] at hc
    go_wp2_with fail
    refine hc.mono ?_
    clear hc p00 p01 p02 p10 p11 p12
    rintro e w8 hp
    obtain ⟨x1, c1, x2, c2, x3, c3, rfl, hd, hb⟩ := hp.open'
    rw [show outX (Except.ok dq) = (dq, 0) from rfl] at hd ⊢
    dsimp only at hd ⊢
    have HD := hid hd
    have Ha := hid (Ha.out.below (hb.mono Ha.out.le))
    have Hb := hid (Hb.out.below (hb.mono Hb.out.le))
    have Hx := hid (Hx.out.below (hb.mono Hx.out.le))
    have Hy := hid (Hy.out.below (hb.mono Hy.out.le))
    have Hz := hid (Hz.out.below (hb.mono Hz.out.le))
    have Hc := hid (Hc.out.below (hb.mono Hc.out.le))
    have Hd := hid (Hd.out.below (hb.mono Hd.out.le))
    have Hn := hid (Hn.out.below (hb.mono Hn.out.le))
    have HB := hid (HB.out.trans (hb.mono HB.out.size))
    clear hd hb hp
    go_upto_region 12 with fail
    have hA := ABox.new HD.out
    generalize hW : w8.alloc (.cells #[.slice x1 dq.cls.length c1, .slice x2 dq.next.length c2, .slice x3 dq.fin.length c3] 30) = v8 at *
    have hb : Below w8.heap.size w8 v8 := by rw [← hW]; exact (Below.refl _ _).alloc (Nat.le_refl _) _
    have Hq := hid hA
    have Ha := hid (Ha.out.below (hb.mono Ha.out.le))
    have Hb := hid (Hb.out.below (hb.mono Hb.out.le))
    have Hx := hid (Hx.out.below (hb.mono Hx.out.le))
    have Hy := hid (Hy.out.below (hb.mono Hy.out.le))
    have Hz := hid (Hz.out.below (hb.mono Hz.out.le))
    have Hc := hid (Hc.out.below (hb.mono Hc.out.le))
    have Hd := hid (Hd.out.below (hb.mono Hd.out.le))
    have Hn := hid (Hn.out.below (hb.mono Hn.out.le))
    have HB := hid (HB.out.trans (hb.mono HB.out.size))
    clear hW HD hA hb
    obtain ⟨p00, p01, p02⟩ := Hy.out.cells
    obtain ⟨p10, p11, p12⟩ := Hx.out.cells
    have hc := bLess_any Hy.out.dfa Hx.out.dfa Hy.out.fits Hx.out.fits (HT.out _ HB.out)
    rw [K7.out] at hc
    go_wp2_with fail
    refine hc.mono ?_
    clear hc p00 p01 p02 p10 p11 p12
    rintro e w9 hp
    obtain ⟨x1, c1, x2, c2, x3, c3, rfl, hd, hb⟩ := hp.open'
    rw [show outX (Except.ok dp) = (dp, 0) from rfl] at hd ⊢
    dsimp only at hd ⊢
    have HD := hid hd
    have Ha := hid (Ha.out.below (hb.mono Ha.out.le))
    have Hb := hid (Hb.out.below (hb.mono Hb.out.le))
    have Hx := hid (Hx.out.below (hb.mono Hx.out.le))
    have Hy := hid (Hy.out.below (hb.mono Hy.out.le))
    have Hz := hid (Hz.out.below (hb.mono Hz.out.le))
    have Hc := hid (Hc.out.below (hb.mono Hc.out.le))
    have Hd := hid (Hd.out.below (hb.mono Hd.out.le))
    have Hn := hid (Hn.out.below (hb.mono Hn.out.le))
    have Hq := hid (Hq.out.below (hb.mono Hq.out.le))
    have HB := hid (HB.out.trans (hb.mono HB.out.size))
    clear hd hb hp
    go_upto_region 13 with fail
    have hA := ABox.new HD.out
    generalize hW : w9.alloc (.cells #[.slice x1 dp.cls.length c1, .slice x2 dp.next.length c2, .slice x3 dp.fin.length c3] 30) = v9 at *
    have hb : Below w9.heap.size w9 v9 := by rw [← hW]; exact (Below.refl _ _).alloc (Nat.le_refl _) _
    have Hp := hid hA
    have Ha := hid (Ha.out.below (hb.mono Ha.out.le))
    have Hb := hid (Hb.out.below (hb.mono Hb.out.le))
    have Hx := hid (Hx.out.below (hb.mono Hx.out.le))
    have Hy := hid (Hy.out.below (hb.mono Hy.out.le))
    have Hz := hid (Hz.out.below (hb.mono Hz.out.le))
    have Hc := hid (Hc.out.below (hb.mono Hc.out.le))
    have Hd := hid (Hd.out.below (hb.mono Hd.out.le))
    have Hn := hid (Hn.out.below (hb.mono Hn.out.le))
    have Hq := hid (Hq.out.below (hb.mono Hq.out.le))
    have HB := hid (HB.out.trans (hb.mono HB.out.size))
    clear hW HD hA hb
    obtain ⟨p00, p01, p02⟩ := Hn.out.cells
    have hc := takes_any Hn.out.dfa Hn.out.fits t h1000
    rw [T1.out] at hc
    go_wp2_with fail
    refine hc.mono ?_
    clear hc p00 p01 p02
    rintro e w10 ⟨rfl, hb⟩
    have Ha := hid (Ha.out.below (hb.mono Ha.out.le))
    have Hb := hid (Hb.out.below (hb.mono Hb.out.le))
    have Hx := hid (Hx.out.below (hb.mono Hx.out.le))
    have Hy := hid (Hy.out.below (hb.mono Hy.out.le))
    have Hz := hid (Hz.out.below (hb.mono Hz.out.le))
    have Hc := hid (Hc.out.below (hb.mono Hc.out.le))
    have Hd := hid (Hd.out.below (hb.mono Hd.out.le))
    have Hn := hid (Hn.out.below (hb.mono Hn.out.le))
    have Hq := hid (Hq.out.below (hb.mono Hq.out.le))
    have Hp := hid (Hp.out.below (hb.mono Hp.out.le))
    have HB := hid (HB.out.trans (hb.mono HB.out.size))
    clear hb
    obtain ⟨p00, p01, p02⟩ := Hq.out.cells
    have hc := takes_any Hq.out.dfa Hq.out.fits t h1000
    rw [T2.out] at hc
    go_wp2_with fail
    refine hc.mono ?_
    clear hc p00 p01 p02
    rintro e w11 ⟨rfl, hb⟩
    have Ha := hid (Ha.out.below (hb.mono Ha.out.le))
    have Hb := hid (Hb.out.below (hb.mono Hb.out.le))
    have Hx := hid (Hx.out.below (hb.mono Hx.out.le))
    have Hy := hid (Hy.out.below (hb.mono Hy.out.le))
    have Hz := hid (Hz.out.below (hb.mono Hz.out.le))
    have Hc := hid (Hc.out.below (hb.mono Hc.out.le))
    have Hd := hid (Hd.out.below (hb.mono Hd.out.le))
    have Hn := hid (Hn.out.below (hb.mono Hn.out.le))
    have Hq := hid (Hq.out.below (hb.mono Hq.out.le))
    have Hp := hid (Hp.out.below (hb.mono Hp.out.le))
    have HB := hid (HB.out.trans (hb.mono HB.out.size))
    clear hb
    obtain ⟨p00, p01, p02⟩ := Hz.out.cells
    have hc := takes_any Hz.out.dfa Hz.out.fits t h1000
    rw [T3.out] at hc
    go_wp2_with fail
    refine hc.mono ?_
    clear hc p00 p01 p02
    rintro e w12 ⟨rfl, hb⟩
    have Ha := hid (Ha.out.below (hb.mono Ha.out.le))
    have Hb := hid (Hb.out.below (hb.mono Hb.out.le))
    have Hx := hid (Hx.out.below (hb.mono Hx.out.le))
    have Hy := hid (Hy.out.below (hb.mono Hy.out.le))
    have Hz := hid (Hz.out.below (hb.mono Hz.out.le))
    have Hc := hid (Hc.out.below (hb.mono Hc.out.le))
    have Hd := hid (Hd.out.below (hb.mono Hd.out.le))
    have Hn := hid (Hn.out.below (hb.mono Hn.out.le))
    have Hq := hid (Hq.out.below (hb.mono Hq.out.le))
    have Hp := hid (Hp.out.below (hb.mono Hp.out.le))
    have HB := hid (HB.out.trans (hb.mono HB.out.size))
    clear hb
    obtain ⟨p00, p01, p02⟩ := Hp.out.cells
    have hc := takes_any Hp.out.dfa Hp.out.fits t h1000
    rw [T4.out] at hc
    go_wp2_with fail
    refine hc.mono ?_
    clear hc p00 p01 p02
    rintro e w13 ⟨rfl, hb⟩
    have Ha := hid (Ha.out.below (hb.mono Ha.out.le))
    have Hb := hid (Hb.out.below (hb.mono Hb.out.le))
    have Hx := hid (Hx.out.below (hb.mono Hx.out.le))
    have Hy := hid (Hy.out.below (hb.mono Hy.out.le))
    have Hz := hid (Hz.out.below (hb.mono Hz.out.le))
    have Hc := hid (Hc.out.below (hb.mono Hc.out.le))
    have Hd := hid (Hd.out.below (hb.mono Hd.out.le))
    have Hn := hid (Hn.out.below (hb.mono Hn.out.le))
    have Hq := hid (Hq.out.below (hb.mono Hq.out.le))
    have Hp := hid (Hp.out.below (hb.mono Hp.out.le))
    have HB := hid (HB.out.trans (hb.mono HB.out.size))
    clear hb
    have haw := awake12_any _ (HT.out _ HB.out)
    go_wp2_with fail
    refine haw.mono ?_
    clear haw
    rintro e w14 ⟨rfl, hb⟩
    have HB := hid (HB.out.trans (hb.mono HB.out.size))
    clear hb T1 T2 T3 T4
    cases A <;> cases B
    all_goals go_wp2_with fail
    all_goals go_ret
    all_goals exact ⟨rfl, HB.out⟩
theorem morgan_go {F G : Nat → Prop} {w : World} {a1 a2 a3 b1 b2 b3 : Value} {a b : Dfa} (ha : DfaIn F w a1 a2 a3 a) (hF : ∀ g, F g → g < w.heap.size) (hb : DfaIn G w b1 b2 b3 b) (hG : ∀ g, G g → g < w.heap.size) (t : ByteArray) (ht : t.size ≤ 140737488351232) (hT : Tab w) :
    Calls Tryd.prog 11 #[.agg #[a1, a2, a3], .agg #[b1, b2, b3], .string t] w (AwPost w) := morgan_walk ha hb hF hG t ht hT
end Go.Proofs.YtfjomnhdmkbkiaaDoor.Im
