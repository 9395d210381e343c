/-
  The walk of BoolsSelf.
-/
import Derived.Test.YtfjomnhdmkbkiaaDoorDiQ
import Derived.Test.YtfjomnhdmkbkiaaDoorDhQ
namespace Go.Proofs.YtfjomnhdmkbkiaaDoor.Im
open Go.RowKit Go.Lib Go.Maps Go.Shelf

theorem self_ok {a : Dfa} (ha : dfaOk a = true) : ∃ db dc dd di dk : Dfa, joinM (fun x y => x != y) a a = .ok db ∧ joinM (fun x y => x && !y) a a = .ok dc ∧ joinM (fun x y => x && y) a a = .ok dd ∧ joinM (fun x y => x || y) a a = .ok di ∧ notM a = .ok dk ∧ notM dk = .ok a ∧
    (∀ k (h : k < db.fin.length), db.fin[k] = false) ∧ (∀ k (h : k < dc.fin.length), dc.fin[k] = false) ∧ dd.next.length ≤ a.next.length ∧ ∀ w, takesM dd w = ((takesM a w).1, 0) ∧ takesM di w = ((takesM a w).1, 0) := by
  obtain ⟨db, h1, _, h2⟩ := join_self (fun x y => x != y) ha ha rfl rfl
  obtain ⟨dc, h3, _, h4⟩ := join_self (fun x y => x && !y) ha ha rfl rfl
  obtain ⟨dd, h5, h6, _⟩ := join_self (fun x y => x && y) ha ha rfl rfl
  obtain ⟨di, h7, _, _⟩ := join_self (fun x y => x || y) ha ha rfl rfl
  obtain ⟨dk, h8⟩ := not_some ha
  obtain ⟨_, _, _, _, h9, _⟩ := not_law h8
  refine ⟨db, dc, dd, di, dk, h1, h3, h5, h7, h8, h9, fun k h => ?_, fun k h => ?_, h6, fun w => ⟨?_, ?_⟩⟩
  · obtain ⟨x, hx⟩ := h2 k h
    rw [List.getElem?_eq_getElem h] at hx
    rw [Option.some.inj hx]
    cases a.fin.getD x false <;> rfl
  · obtain ⟨x, hx⟩ := h4 k h
    rw [List.getElem?_eq_getElem h] at hx
    rw [Option.some.inj hx]
    cases a.fin.getD x false <;> rfl
  · rw [(join_law h5).2 w, Bool.and_self]
  · rw [(join_law h7).2 w, Bool.or_self]
set_option maxRecDepth 100000 in
set_option maxHeartbeats 16000000 in
theorem self_walk {F : Nat → Prop} {w : World} {a1 a2 a3 : Value} {a : Dfa} (ha : DfaIn F w a1 a2 a3 a) (hF : ∀ g, F g → g < w.heap.size) (t : ByteArray) (ht : t.size ≤ 140737488351232) (hT : Tab w) :
    Calls Tryd.prog 10 #[.agg #[a1, a2, a3], .string t] w (AwPost w) := by
  obtain ⟨W0, hW0⟩ : ∃ W0, W0 = w.alloc (.cells #[a1, a2, a3] 30) := ⟨_, rfl⟩
  have hA0 : W0.heap[w.heap.size]? = some (.cells #[a1, a2, a3] 30 (0, 0)) := by rw [hW0]; exact heap_alloc_new _ _
  have hB0 : Below w.heap.size w W0 := by rw [hW0]; exact (Below.refl _ _).alloc (Nat.le_refl _) _
  have hz0 : W0.heap.size = w.heap.size + 1 := by rw [hW0]; simp
  obtain ⟨ada, cpa, rfl, hma, _⟩ := ha.cls
  obtain ⟨adb, cpb, rfl, hmb, _⟩ := ha.next
  obtain ⟨adc, cpc, rfl, hmc, _⟩ := ha.fin
  unfold maxLen at hma hmb hmc
  have Ha := hid (ABox.arg (L := w.heap.size + 1) ha hF hB0 hA0 (by omega) (by omega) (by omega))
  have HB := hid hB0
  have HT := hid (fun (W : World) (h : Below w.heap.size w W) => (show Tab W from hT.below h))
  have HW0 := hid hW0
  clear ha hF hT hA0 hB0 hW0 hz0
  obtain ⟨p00, p01, p02⟩ := Ha.out.cells
  have hc := few_some Ha.out.dfa Ha.out.fits
  go_enter Tryd.func10, Tryd.ntmps10
  go_upto_region 1 with fail
  rw [← HW0.out]
  clear HW0
  go_wp2_with fail
  refine hc.mono ?_
  clear hc p00 p01 p02
  rintro e w0 ⟨⟨xa, rfl⟩, hb⟩
  have Ha := hid (Ha.out.below (hb.mono Ha.out.le))
  have HB := hid (HB.out.trans (hb.mono HB.out.size))
  clear hb
  cases xa with
  | false =>
    go_wp2_with fail
    go_ret
    exact ⟨rfl, HB.out⟩
  | true =>
  by_cases h100 : 100 < t.size
  · have h100' : (100 : Int) < (t.size : Int) := by omega
    go_wp2_with fail
    go_ret
    exact ⟨rfl, HB.out⟩
  have h100' : ¬ ((100 : Int) < (t.size : Int)) := by omega
  go_upto_region 3 with fail
  have h1000 : t.size ≤ 1000 := by omega
  clear h100 h100'
  by_cases hok : ¬ dfaOk a = true
  · have HTB := hid (takes_bad (t := t.data.toList) hok)
    clear hok
    obtain ⟨p00, p01, p02⟩ := Ha.out.cells
    have hc := takes_any Ha.out.dfa Ha.out.fits t h1000
    rw [HTB.out] at hc
    go_wp2_with fail
    refine hc.mono ?_
    clear hc p00 p01 p02
    rintro e w2 ⟨rfl, hb⟩
    have Ha := hid (Ha.out.below (hb.mono Ha.out.le))
    have HB := hid (HB.out.trans (hb.mono HB.out.size))
    clear hb
    have haw := awake12_any _ (HT.out _ HB.out)
    go_wp2_with fail
    refine haw.mono ?_
    clear haw
    rintro e w3 ⟨rfl, hb⟩
    have Ha := hid (Ha.out.below (hb.mono Ha.out.le))
    have HB := hid (HB.out.trans (hb.mono HB.out.size))
    clear hb
    go_wp2_with fail
    go_ret
    exact ⟨rfl, HB.out⟩
  · have hok : dfaOk a = true := by simpa using hok
    obtain ⟨db, dc, dd, di, dk, k1, k2, k3, k4, k5, k6, f1, f2, hle, hk⟩ := self_ok hok
    obtain ⟨t1, t2⟩ := hk t.data.toList
    have K1 := hid k1
    have K2 := hid k2
    have K3 := hid k3
    have K4 := hid k4
    have K5 := hid k5
    have K6 := hid k6
    have FB := hid f1
    have FC := hid f2
    have HLE := hid hle
    obtain ⟨A, hA⟩ : ∃ A, takesM a t.data.toList = (A, 0) := ⟨_, takes_good hok⟩
    rw [hA] at t1 t2
    have T0 := hid hA
    have T1 := hid t1
    have T2 := hid t2
    clear hok k1 k2 k3 k4 k5 k6 f1 f2 hle hk t1 t2 hA
    obtain ⟨p00, p01, p02⟩ := Ha.out.cells
    have hc := takes_any Ha.out.dfa Ha.out.fits t h1000
    rw [T0.out] at hc
    go_wp2_with fail
    refine hc.mono ?_
    clear hc p00 p01 p02
    rintro e w2 ⟨rfl, hb⟩
    have Ha := hid (Ha.out.below (hb.mono Ha.out.le))
    have HB := hid (HB.out.trans (hb.mono HB.out.size))
    clear hb
    obtain ⟨p00, p01, p02⟩ := Ha.out.cells
    have hc := bApart_any Ha.out.dfa Ha.out.dfa Ha.out.fits Ha.out.fits (HT.out _ HB.out)
    rw [K1.out] at hc
    go_wp2_with fail
    refine hc.mono ?_
    clear hc p00 p01 p02
    rintro e w3 hp
    obtain ⟨x1, c1, x2, c2, x3, c3, rfl, hd, hb⟩ := hp.open'
    rw [show outX (Except.ok db) = (db, 0) from rfl] at hd ⊢
    dsimp only at hd ⊢
    have HD := hid hd
    have Ha := hid (Ha.out.below (hb.mono Ha.out.le))
    have HB := hid (HB.out.trans (hb.mono HB.out.size))
    clear hd hb hp
    go_upto_region 7 with fail
    have hA := ABox.new HD.out
    generalize hW : w3.alloc (.cells #[.slice x1 db.cls.length c1, .slice x2 db.next.length c2, .slice x3 db.fin.length c3] 30) = v3 at *
    have hb : Below w3.heap.size w3 v3 := by rw [← hW]; exact (Below.refl _ _).alloc (Nat.le_refl _) _
    have Hb := hid hA
    have Ha := hid (Ha.out.below (hb.mono Ha.out.le))
    have HB := hid (HB.out.trans (hb.mono HB.out.size))
    clear hW HD hA hb
    obtain ⟨p00, p01, p02⟩ := Ha.out.cells
    have hc := bLess_any Ha.out.dfa Ha.out.dfa Ha.out.fits Ha.out.fits (HT.out _ HB.out)
    rw [K2.out] at hc
    go_wp2_with fail
    refine hc.mono ?_
    clear hc p00 p01 p02
    rintro e w4 hp
    obtain ⟨x1, c1, x2, c2, x3, c3, rfl, hd, hb⟩ := hp.open'
    rw [show outX (Except.ok dc) = (dc, 0) from rfl] at hd ⊢
    dsimp only at hd ⊢
    have HD := hid hd
    have Ha := hid (Ha.out.below (hb.mono Ha.out.le))
    have Hb := hid (Hb.out.below (hb.mono Hb.out.le))
    have HB := hid (HB.out.trans (hb.mono HB.out.size))
    clear hd hb hp
    go_upto_region 8 with fail
    have hA := ABox.new HD.out
    generalize hW : w4.alloc (.cells #[.slice x1 dc.cls.length c1, .slice x2 dc.next.length c2, .slice x3 dc.fin.length c3] 30) = v4 at *
    have hb : Below w4.heap.size w4 v4 := by rw [← hW]; exact (Below.refl _ _).alloc (Nat.le_refl _) _
    have Hc := hid hA
    have Ha := hid (Ha.out.below (hb.mono Ha.out.le))
    have Hb := hid (Hb.out.below (hb.mono Hb.out.le))
    have HB := hid (HB.out.trans (hb.mono HB.out.size))
    clear hW HD hA hb
    obtain ⟨p00, p01, p02⟩ := Ha.out.cells
    have hc := bAnd_any Ha.out.dfa Ha.out.dfa Ha.out.fits Ha.out.fits (HT.out _ HB.out)
    rw [K3.out] at hc
    go_wp2_with fail
    refine hc.mono ?_
    clear hc p00 p01 p02
    rintro e w5 hp
    obtain ⟨x1, c1, x2, c2, x3, c3, rfl, hd, hb⟩ := hp.open'
    rw [show outX (Except.ok dd) = (dd, 0) from rfl] at hd ⊢
    dsimp only at hd ⊢
    have HD := hid hd
    have Ha := hid (Ha.out.below (hb.mono Ha.out.le))
    have Hb := hid (Hb.out.below (hb.mono Hb.out.le))
    have Hc := hid (Hc.out.below (hb.mono Hc.out.le))
    have HB := hid (HB.out.trans (hb.mono HB.out.size))
    clear hd hb hp
    go_upto_region 9 with fail
    have hA := ABox.new HD.out
    generalize hW : w5.alloc (.cells #[.slice x1 dd.cls.length c1, .slice x2 dd.next.length c2, .slice x3 dd.fin.length c3] 30) = v5 at *
    have hb : Below w5.heap.size w5 v5 := by rw [← hW]; exact (Below.refl _ _).alloc (Nat.le_refl _) _
    have Hd := hid hA
    have Ha := hid (Ha.out.below (hb.mono Ha.out.le))
    have Hb := hid (Hb.out.below (hb.mono Hb.out.le))
    have Hc := hid (Hc.out.below (hb.mono Hc.out.le))
    have HB := hid (HB.out.trans (hb.mono HB.out.size))
    clear hW HD hA hb
    obtain ⟨p00, p01, p02⟩ := Ha.out.cells
    have hc := bOr_any Ha.out.dfa Ha.out.dfa Ha.out.fits Ha.out.fits (HT.out _ HB.out)
    rw [K4.out] at hc
    go_wp2_with fail
    refine hc.mono ?_
    clear hc p00 p01 p02
    rintro e w6 hp
    obtain ⟨x1, c1, x2, c2, x3, c3, rfl, hd, hb⟩ := hp.open'
    rw [show outX (Except.ok di) = (di, 0) from rfl] at hd ⊢
    dsimp only at hd ⊢
    have HD := hid hd
    have Ha := hid (Ha.out.below (hb.mono Ha.out.le))
    have Hb := hid (Hb.out.below (hb.mono Hb.out.le))
    have Hc := hid (Hc.out.below (hb.mono Hc.out.le))
    have Hd := hid (Hd.out.below (hb.mono Hd.out.le))
    have HB := hid (HB.out.trans (hb.mono HB.out.size))
    clear hd hb hp
    go_upto_region 10 with fail
    have hA := ABox.new HD.out
    generalize hW : w6.alloc (.cells #[.slice x1 di.cls.length c1, .slice x2 di.next.length c2, .slice x3 di.fin.length c3] 30) = v6 at *
    have hb : Below w6.heap.size w6 v6 := by rw [← hW]; exact (Below.refl _ _).alloc (Nat.le_refl _) _
    have Hi := hid hA
    have Ha := hid (Ha.out.below (hb.mono Ha.out.le))
    have Hb := hid (Hb.out.below (hb.mono Hb.out.le))
    have Hc := hid (Hc.out.below (hb.mono Hc.out.le))
    have Hd := hid (Hd.out.below (hb.mono Hd.out.le))
    have HB := hid (HB.out.trans (hb.mono HB.out.size))
    clear hW HD hA hb
    obtain ⟨p00, p01, p02⟩ := Ha.out.cells
    have hc := bnot_any Ha.out.dfa Ha.out.fits
    rw [K5.out] at hc
    go_wp2_with fail
    refine hc.mono ?_
    clear hc p00 p01 p02
    rintro e w7 hp
    obtain ⟨x1, c1, x2, c2, x3, c3, rfl, hd, hb⟩ := hp.open'
    rw [show outX (Except.ok dk) = (dk, 0) from rfl] at hd ⊢
    dsimp only at hd ⊢
    have HD := hid hd
    have Ha := hid (Ha.out.below (hb.mono Ha.out.le))
    have Hb := hid (Hb.out.below (hb.mono Hb.out.le))
    have Hc := hid (Hc.out.below (hb.mono Hc.out.le))
    have Hd := hid (Hd.out.below (hb.mono Hd.out.le))
    have Hi := hid (Hi.out.below (hb.mono Hi.out.le))
    have HB := hid (HB.out.trans (hb.mono HB.out.size))
    clear hd hb hp
    go_upto_region 11 with fail
    have hA := ABox.new HD.out
    generalize hW : w7.alloc (.cells #[.slice x1 dk.cls.length c1, .slice x2 dk.next.length c2, .slice x3 dk.fin.length c3] 30) = v7 at *
    have hb : Below w7.heap.size w7 v7 := by rw [← hW]; exact (Below.refl _ _).alloc (Nat.le_refl _) _
    have Hk := hid hA
    have Ha := hid (Ha.out.below (hb.mono Ha.out.le))
    have Hb := hid (Hb.out.below (hb.mono Hb.out.le))
    have Hc := hid (Hc.out.below (hb.mono Hc.out.le))
    have Hd := hid (Hd.out.below (hb.mono Hd.out.le))
    have Hi := hid (Hi.out.below (hb.mono Hi.out.le))
    have HB := hid (HB.out.trans (hb.mono HB.out.size))
    clear hW HD hA hb
    obtain ⟨p00, p01, p02⟩ := Hk.out.cells
    have hc := bnot_any Hk.out.dfa Hk.out.fits
    rw [K6.out] at hc
    go_wp2_with fail
    refine hc.mono ?_
    clear hc p00 p01 p02
    rintro e w8 hp
    obtain ⟨x1, c1, x2, c2, x3, c3, rfl, hd, hb⟩ := hp.open'
    rw [show outX (Except.ok a) = (a, 0) from rfl] at hd ⊢
    dsimp only at hd ⊢
    have HD := hid hd
    have Ha := hid (Ha.out.below (hb.mono Ha.out.le))
    have Hb := hid (Hb.out.below (hb.mono Hb.out.le))
    have Hc := hid (Hc.out.below (hb.mono Hc.out.le))
    have Hd := hid (Hd.out.below (hb.mono Hd.out.le))
    have Hi := hid (Hi.out.below (hb.mono Hi.out.le))
    have Hk := hid (Hk.out.below (hb.mono Hk.out.le))
    have HB := hid (HB.out.trans (hb.mono HB.out.size))
    clear hd hb hp
    go_upto_region 12 with fail
    have hA := ABox.new HD.out
    generalize hW : w8.alloc (.cells #[.slice x1 a.cls.length c1, .slice x2 a.next.length c2, .slice x3 a.fin.length c3] 30) = v8 at *
    have hb : Below w8.heap.size w8 v8 := by rw [← hW]; exact (Below.refl _ _).alloc (Nat.le_refl _) _
    have Hm := hid hA
    have Ha := hid (Ha.out.below (hb.mono Ha.out.le))
    have Hb := hid (Hb.out.below (hb.mono Hb.out.le))
    have Hc := hid (Hc.out.below (hb.mono Hc.out.le))
    have Hd := hid (Hd.out.below (hb.mono Hd.out.le))
    have Hi := hid (Hi.out.below (hb.mono Hi.out.le))
    have Hk := hid (Hk.out.below (hb.mono Hk.out.le))
    have HB := hid (HB.out.trans (hb.mono HB.out.size))
    clear hW HD hA hb
    obtain ⟨_, _, _, hbm, _⟩ := Hb.out.dfa.fin
    unfold maxLen at hbm
    obtain ⟨b0, b1, b2⟩ := Hb.out.cells
    obtain ⟨c0, c1', c2'⟩ := Hc.out.cells
    go_wp2_with fail
    go_loop [19] (fun i => ∃ j : Nat, j ≤ db.fin.length ∧ i = .int .i64 j) (fun i => db.fin.length - (intOf i).toNat)
    case atStart => exact ⟨0, Nat.zero_le _, rfl⟩
    case round =>
      obtain ⟨j, hj, rfl⟩ := hrel
      by_cases hlt : j < db.fin.length
      · obtain ⟨gb, ob, hgb, _, v1⟩ := bools_at Hb.out.dfa.fin hlt
        subst hgb
        rw [FB.out j hlt] at v1
        by_cases hlc : j < dc.fin.length
        · obtain ⟨gc, oc, hgc, _, v2⟩ := bools_at Hc.out.dfa.fin hlc
          subst hgc
          rw [FC.out j hlc] at v2
          go_wp2_with fail
          go_round
          case rel => exact ⟨j + 1, by omega, by go_num⟩
          case measure => simp [intOf]; omega
        · have hlc' : ¬ ((j : Int) < (dc.fin.length : Int)) := by omega
          go_wp2_with fail
          go_round
          case rel => exact ⟨j + 1, by omega, by go_num⟩
          case measure => simp [intOf]; omega
      · obtain rfl : j = db.fin.length := by omega
        clear hlt hj
        go_upto_region 19 with fail
        clear b0 b1 b2 c0 c1' c2'
        obtain ⟨p00, p01, p02⟩ := Hd.out.cells
        have hc := takes_any Hd.out.dfa Hd.out.fits t h1000
        rw [T1.out] at hc
        go_wp2_with fail
        refine hc.mono ?_
        clear hc p00 p01 p02
        rintro e w9 ⟨rfl, hb⟩
        have Ha := hid (Ha.out.below (hb.mono Ha.out.le))
        have Hb := hid (Hb.out.below (hb.mono Hb.out.le))
        have Hc := hid (Hc.out.below (hb.mono Hc.out.le))
        have Hd := hid (Hd.out.below (hb.mono Hd.out.le))
        have Hi := hid (Hi.out.below (hb.mono Hi.out.le))
        have Hk := hid (Hk.out.below (hb.mono Hk.out.le))
        have Hm := hid (Hm.out.below (hb.mono Hm.out.le))
        have HB := hid (HB.out.trans (hb.mono HB.out.size))
        clear hb
        obtain ⟨p00, p01, p02⟩ := Hi.out.cells
        have hc := takes_any Hi.out.dfa Hi.out.fits t h1000
        rw [T2.out] at hc
        go_wp2_with fail
        refine hc.mono ?_
        clear hc p00 p01 p02
        rintro e w10 ⟨rfl, hb⟩
        have Ha := hid (Ha.out.below (hb.mono Ha.out.le))
        have Hb := hid (Hb.out.below (hb.mono Hb.out.le))
        have Hc := hid (Hc.out.below (hb.mono Hc.out.le))
        have Hd := hid (Hd.out.below (hb.mono Hd.out.le))
        have Hi := hid (Hi.out.below (hb.mono Hi.out.le))
        have Hk := hid (Hk.out.below (hb.mono Hk.out.le))
        have Hm := hid (Hm.out.below (hb.mono Hm.out.le))
        have HB := hid (HB.out.trans (hb.mono HB.out.size))
        clear hb
        have haw := awake12_any _ (HT.out _ HB.out)
        go_wp2_with fail
        refine haw.mono ?_
        clear haw
        rintro e w11 ⟨rfl, hb⟩
        have Ha := hid (Ha.out.below (hb.mono Ha.out.le))
        have Hb := hid (Hb.out.below (hb.mono Hb.out.le))
        have Hc := hid (Hc.out.below (hb.mono Hc.out.le))
        have Hd := hid (Hd.out.below (hb.mono Hd.out.le))
        have Hi := hid (Hi.out.below (hb.mono Hi.out.le))
        have Hk := hid (Hk.out.below (hb.mono Hk.out.le))
        have Hm := hid (Hm.out.below (hb.mono Hm.out.le))
        have HB := hid (HB.out.trans (hb.mono HB.out.size))
        clear hb
        obtain ⟨p00, p01, p02⟩ := Hm.out.cells
        obtain ⟨p10, p11, p12⟩ := Ha.out.cells
        have hc := dsame_yes Hm.out.dfa Ha.out.dfa Hm.out.fits Ha.out.fits
        go_wp2_with fail
        refine hc.mono ?_
        clear hc p00 p01 p02 p10 p11 p12
        rintro e w12 ⟨rfl, hb⟩
        have Ha := hid (Ha.out.below (hb.mono Ha.out.le))
        have Hb := hid (Hb.out.below (hb.mono Hb.out.le))
        have Hc := hid (Hc.out.below (hb.mono Hc.out.le))
        have Hd := hid (Hd.out.below (hb.mono Hd.out.le))
        have Hi := hid (Hi.out.below (hb.mono Hi.out.le))
        have Hk := hid (Hk.out.below (hb.mono Hk.out.le))
        have Hm := hid (Hm.out.below (hb.mono Hm.out.le))
        have HB := hid (HB.out.trans (hb.mono HB.out.size))
        clear hb
        obtain ⟨p00, p01, p02⟩ := Hd.out.cells
        obtain ⟨p10, p11, p12⟩ := Ha.out.cells
        have hle := HLE.out
        have hle' : (dd.next.length : Int) ≤ (a.next.length : Int) := by omega
        cases A
        all_goals go_wp2_with fail
        all_goals go_ret
        all_goals exact ⟨rfl, HB.out⟩
end Go.Proofs.YtfjomnhdmkbkiaaDoor.Im
