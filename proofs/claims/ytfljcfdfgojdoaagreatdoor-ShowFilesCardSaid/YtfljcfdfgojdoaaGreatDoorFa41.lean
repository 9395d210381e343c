/-
  The reference's rightMap, kind by kind. (Printed by genRq.py.)
-/
import Derived.Test.YtfljcfdfgojdoaaGreatDoorFa40
namespace Go.Proofs.YtfljcfdfgojdoaaGreatDoor.Sh.Rf
open Go.RowKit Go.Lib Go.Proofs.YtfljcfdfgojdoaaGreatDoor Go.Proofs.YtfljcfdfgojdoaaGreatDoor.Sh

/-- the reference's rightMap, at a map -/
def RMapAt (n : Nat) (r : Mp) : Prop := ∀ (F : Nat → Prop) (y : Mw) (w : World), (∀ g, F g → g < w.heap.size) → MpG F w r y →
  Calls Tryz.prog 136 #[.agg y.cs] w fun e w' => e = .returned (.bool (rMapB n r)) ∧ Below w.heap.size w w'
set_option maxRecDepth 100000 in
set_option maxHeartbeats 8000000 in
theorem rm_k1 (N : Nat) (r : Re) (o : List B) (ps : List Mp) (mn mx : Int) (htx : TxRe r) (hnd : nodes r ≤ 1000000) (ih : ∀ p ∈ ps, RMapAt N p) : RMapAt (N + 1) (.mk 1 r o ps mn mx) := by
  intro F y w hFw h
  obtain ⟨e1, e2, e3, e4, e5, hre, hlen, hps⟩ := h.open
  obtain ⟨k', yr, o', ad, n', cap, mn', mx'⟩ := y
  dsimp only at e1 e2 e3 e4 e5 hre hps
  subst k' o' n' mn' mx'
  have HPS := hid hps
  have HFW := hid hFw
  unfold maxLen at hlen
  have HB0 := hid ((Below.refl w.heap.size w).alloc (Nat.le_refl _) (.cells (Mw.cs ⟨1, yr, o, ad, ps.length, cap, mn, mx⟩) 36))
  have hblk : (w.alloc (.cells (Mw.cs ⟨1, yr, o, ad, ps.length, cap, mn, mx⟩) 36)).heap[w.heap.size]? = some (.cells (Mw.cs ⟨1, yr, o, ad, ps.length, cap, mn, mx⟩) 36 (0, 0)) := heap_alloc_new _ _
  have hsz0 : (w.alloc (.cells (Mw.cs ⟨1, yr, o, ad, ps.length, cap, mn, mx⟩) 36)).heap.size = w.heap.size + 1 := by simp
  have HBK := hid hblk
  have HN := hid (nodeE1 r o ps mn mx)
  have HR := hid (show rMapB (N + 1) (.mk 1 r o ps mn mx) = (nodeM (mwOf (.mk 1 r o ps mn mx)) r && ps.all (rMapB N)) from rfl)
  obtain ⟨b, hb⟩ : ∃ b : Bool, b = rMapB (N + 1) (.mk 1 r o ps mn mx) := ⟨_, rfl⟩
  rw [← hb] at HR ⊢
  clear hb
  have IH := hid ih
  have hsz := sameZ_any yr hre.rn
  rw [emptyRw_same hre] at hsz
  have hkk : (rwOf r).k = yr.k := hre.same.1.symm
  rw [hkk] at HN
  have hck := fun (W : World) (hW : Below w.heap.size w W) => checkR_any (F := F) (r := r) (cs := yr.cs) (w := W) (fun g hg => Nat.lt_of_lt_of_le (hFw g hg) hW.size) (hre.below hFw hW) htx hnd
  have HSZ := hid hsz
  have HCK := hid hck
  have HOK := hid (show okB r = (checkM r == 0) from rfl)
  clear h ih hps hFw hblk hre hsz hck hkk
  go_enter Tryz.func136, Tryz.ntmps136
  go_upto_region 1 with fail
  generalize w.alloc (.cells (Mw.cs ⟨1, yr, o, ad, ps.length, cap, mn, mx⟩) 36) = W0 at *
  go_wp2
  go_loopw [3] (fun v wr => ∃ i : Nat, i ≤ ps.length ∧ v = .int .i64 i ∧ Hid (∀ p, p ∈ ps.take i → rMapB N p = true) ∧ Hid (Below (w.heap.size + 1) W0 wr)) (fun v _ => ps.length - (RowKit.intOf v).toNat)
  case atStart => exact ⟨0, Nat.zero_le _, rfl, hid (fun p hp => by simp at hp), hid (Below.refl _ _)⟩
  case round =>
    obtain ⟨i, hi, rfl, HS, HB⟩ := hrel
    have hwr : Below w.heap.size w wr := HB0.out.trans (HB.out.mono (by omega))
    have hbk := (HB.out.block w.heap.size (by omega)).trans HBK.out
    have hsz : w.heap.size + 1 ≤ wr.heap.size := by have := HB.out.size; omega
    obtain ⟨c0, c1, c2, c3, c4, c5, c6, c7, c8, c9, c10, c11, c12, c13⟩ := fourteen_of hbk
    by_cases hlt : i < ps.length
    · have hgi : (i : Int) < (ps.length : Int) := by omega
      obtain ⟨g, off, rfl, hgF, hparts⟩ := HPS.out (by rintro rfl; simp at hlt)
      obtain ⟨z, hr1, hc⟩ := hparts.at (List.getElem?_eq_getElem hlt)
      obtain ⟨a0, a1, a2, a3, a4, a5, a6, a7, a8, a9, a10, a11, a12, a13⟩ := elem14_of (W := wr) (g := g) (o := off + i * 14) (y := z) fun j v hv => (hwr.cell (p := ⟨g, off + i * 14 + j, none⟩) (HFW.out g hgF)).trans (hc j v hv)
      have hcall := IH.out ps[i] (List.getElem_mem hlt) F _ wr (fun g hg => by have := HFW.out g hg; omega) (hr1.below HFW.out hwr)
      have HTS := hid (take_snoc hlt)
      have HM := hid (List.getElem_mem hlt)
      clear hparts hc hr1 hbk
      by_cases hd : rMapB N ps[i] = true
      · rw [hd] at hcall
        have hrelS := hid (show ∀ p, p ∈ ps.take (i + 1) → rMapB N p = true from fun p hp => by
          rw [HTS.out] at hp
          rcases List.mem_append.1 hp with hp | hp
          · exact HS.out p hp
          · rw [List.mem_singleton.1 hp]; exact hd)
        clear hd
        go_wp2_with (go_at_call 136; refine hcall.mono ?_; clear hcall; rintro e w3 ⟨rfl, hb3⟩)
        go_roundw
        case rel => exact ⟨i + 1, by omega, by go_num, hrelS, hid (HB.out.trans (hb3.mono (by omega)))⟩
        case measure => simp [RowKit.intOf]; omega
      · rw [Bool.not_eq_true] at hd
        rw [hd] at hcall
        have HD := hid hd
        clear hd
        go_wp2_with (go_at_call 136; refine hcall.mono ?_; clear hcall; rintro e w3 ⟨rfl, hb3⟩)
        go_ret
        exact ⟨bool_eq (by rw [HR.out, (List.all_eq_false.2 ⟨_, HM.out, by rw [HD.out]; simp⟩ : ps.all (rMapB N) = false), Bool.and_false]), hwr.trans (hb3.mono hwr.size)⟩
    · obtain rfl : i = ps.length := by omega
      have HT := hid (show b = nodeM (mwOf (.mk 1 r o ps mn mx)) r by
        rw [HR.out, (List.all_eq_true.2 fun p hp => HS.out p (by rw [List.take_length]; exact hp) : ps.all (rMapB N) = true), Bool.and_true])
      have HBK4 := hid hbk
      have HWR := hid hwr
      rw [HN.out] at HT
      clear hbk hlt hwr
      generalize checkM r = ck at *
      generalize okB r = ok at *
      generalize emptyRw (rwOf r) = ez at *
      by_cases hy1 : yr.k = 1
      · have q1 : (yr.k == 1) = true := by rw [hy1]; rfl
        have q2 : (yr.k == 2) = false := by rw [hy1]; rfl
        have q3 : (yr.k == 3) = false := by rw [hy1]; rfl
        have HAT := hid (show atomB yr.k = true by rw [hy1]; rfl)
        clear hy1
        go_wp2_with (first | (go_at_call 19; refine (HSZ.out _).mono ?_; rintro e w3 ⟨rfl, hb3⟩; have hbk3 := (hb3.block w.heap.size (by omega)).trans HBK4.out; have HW3 := hid (HWR.out.trans (hb3.mono HWR.out.size)); have HBK5 := hid hbk3; have HS3 := hid hb3.size; clear hb3 c0 c1 c2 c3 c4 c5 c6 c7 c8 c9 c10 c11 c12 c13; obtain ⟨c0, c1, c2, c3, c4, c5, c6, c7, c8, c9, c10, c11, c12, c13⟩ := fourteen_of hbk3; clear hbk3) | (go_at_call 71; refine (HCK.out _ HW3.out).mono ?_; rintro e w4 ⟨rfl, hb4⟩; have hbk4 := (hb4.block w.heap.size (by have := HS3.out; omega)).trans HBK5.out; have HW4 := hid (HW3.out.trans (hb4.mono HW3.out.size)); clear hb4 c0 c1 c2 c3 c4 c5 c6 c7 c8 c9 c10 c11 c12 c13; obtain ⟨c0, c1, c2, c3, c4, c5, c6, c7, c8, c9, c10, c11, c12, c13⟩ := fourteen_of hbk4; clear hbk4))
        all_goals
          go_ret
          refine ⟨bool_eq ?_, (by first | exact HW4.out | exact HW3.out)⟩
          rw [HT.out, HAT.out]
          first
            | (simp only [HOK.out, len_eq0]; simp [*]; done)
            | (rw [HOK.out]; simp [*]; done)
            | (by_cases hle : o.length ≤ 256 <;> first | (exfalso; omega) | (simp only [HOK.out, len_eq0]; simp [*]; done) | (rw [HOK.out]; simp [*]; done))
      by_cases hy2 : yr.k = 2
      · have q1 : (yr.k == 1) = false := by rw [hy2]; rfl
        have q2 : (yr.k == 2) = true := by rw [hy2]; rfl
        have q3 : (yr.k == 3) = false := by rw [hy2]; rfl
        have HAT := hid (show atomB yr.k = true by rw [hy2]; rfl)
        clear hy1 hy2
        go_wp2_with (first | (go_at_call 19; refine (HSZ.out _).mono ?_; rintro e w3 ⟨rfl, hb3⟩; have hbk3 := (hb3.block w.heap.size (by omega)).trans HBK4.out; have HW3 := hid (HWR.out.trans (hb3.mono HWR.out.size)); have HBK5 := hid hbk3; have HS3 := hid hb3.size; clear hb3 c0 c1 c2 c3 c4 c5 c6 c7 c8 c9 c10 c11 c12 c13; obtain ⟨c0, c1, c2, c3, c4, c5, c6, c7, c8, c9, c10, c11, c12, c13⟩ := fourteen_of hbk3; clear hbk3) | (go_at_call 71; refine (HCK.out _ HW3.out).mono ?_; rintro e w4 ⟨rfl, hb4⟩; have hbk4 := (hb4.block w.heap.size (by have := HS3.out; omega)).trans HBK5.out; have HW4 := hid (HW3.out.trans (hb4.mono HW3.out.size)); clear hb4 c0 c1 c2 c3 c4 c5 c6 c7 c8 c9 c10 c11 c12 c13; obtain ⟨c0, c1, c2, c3, c4, c5, c6, c7, c8, c9, c10, c11, c12, c13⟩ := fourteen_of hbk4; clear hbk4))
        all_goals
          go_ret
          refine ⟨bool_eq ?_, (by first | exact HW4.out | exact HW3.out)⟩
          rw [HT.out, HAT.out]
          first
            | (simp only [HOK.out, len_eq0]; simp [*]; done)
            | (rw [HOK.out]; simp [*]; done)
            | (by_cases hle : o.length ≤ 256 <;> first | (exfalso; omega) | (simp only [HOK.out, len_eq0]; simp [*]; done) | (rw [HOK.out]; simp [*]; done))
      by_cases hy3 : yr.k = 3
      · have q1 : (yr.k == 1) = false := by rw [hy3]; rfl
        have q2 : (yr.k == 2) = false := by rw [hy3]; rfl
        have q3 : (yr.k == 3) = true := by rw [hy3]; rfl
        have HAT := hid (show atomB yr.k = true by rw [hy3]; rfl)
        clear hy1 hy2 hy3
        go_wp2_with (first | (go_at_call 19; refine (HSZ.out _).mono ?_; rintro e w3 ⟨rfl, hb3⟩; have hbk3 := (hb3.block w.heap.size (by omega)).trans HBK4.out; have HW3 := hid (HWR.out.trans (hb3.mono HWR.out.size)); have HBK5 := hid hbk3; have HS3 := hid hb3.size; clear hb3 c0 c1 c2 c3 c4 c5 c6 c7 c8 c9 c10 c11 c12 c13; obtain ⟨c0, c1, c2, c3, c4, c5, c6, c7, c8, c9, c10, c11, c12, c13⟩ := fourteen_of hbk3; clear hbk3) | (go_at_call 71; refine (HCK.out _ HW3.out).mono ?_; rintro e w4 ⟨rfl, hb4⟩; have hbk4 := (hb4.block w.heap.size (by have := HS3.out; omega)).trans HBK5.out; have HW4 := hid (HW3.out.trans (hb4.mono HW3.out.size)); clear hb4 c0 c1 c2 c3 c4 c5 c6 c7 c8 c9 c10 c11 c12 c13; obtain ⟨c0, c1, c2, c3, c4, c5, c6, c7, c8, c9, c10, c11, c12, c13⟩ := fourteen_of hbk4; clear hbk4))
        all_goals
          go_ret
          refine ⟨bool_eq ?_, (by first | exact HW4.out | exact HW3.out)⟩
          rw [HT.out, HAT.out]
          first
            | (simp only [HOK.out, len_eq0]; simp [*]; done)
            | (rw [HOK.out]; simp [*]; done)
            | (by_cases hle : o.length ≤ 256 <;> first | (exfalso; omega) | (simp only [HOK.out, len_eq0]; simp [*]; done) | (rw [HOK.out]; simp [*]; done))
      have q1 : (yr.k == 1) = false := by simpa using hy1
      have q2 : (yr.k == 2) = false := by simpa using hy2
      have q3 : (yr.k == 3) = false := by simpa using hy3
      have HAT := hid (show atomB yr.k = false by unfold atomB; rw [decide_eq_false hy1, decide_eq_false hy2, decide_eq_false hy3]; rfl)
      clear hy1 hy2 hy3
      go_wp2_with (go_at_call 19; refine (HSZ.out _).mono ?_; rintro e w3 ⟨rfl, hb3⟩; have hbk3 := (hb3.block w.heap.size (by omega)).trans HBK4.out; have HW3 := hid (HWR.out.trans (hb3.mono HWR.out.size)); have HBK5 := hid hbk3; have HS3 := hid hb3.size; clear hb3 c0 c1 c2 c3 c4 c5 c6 c7 c8 c9 c10 c11 c12 c13; obtain ⟨c0, c1, c2, c3, c4, c5, c6, c7, c8, c9, c10, c11, c12, c13⟩ := fourteen_of hbk3; clear hbk3)
      all_goals
        go_ret
        refine ⟨bool_eq ?_, (by first | exact HW4.out | exact HW3.out)⟩
        rw [HT.out, HAT.out]
        first
          | (simp only [HOK.out]; simp [*]; done)
          | (rw [HOK.out]; simp [*]; done)
          | (by_cases hle : o.length ≤ 256 <;> first | (exfalso; omega) | (simp only [HOK.out, len_eq0]; simp [*]; done) | (rw [HOK.out]; simp [*]; done))
set_option maxRecDepth 100000 in
set_option maxHeartbeats 8000000 in
theorem rm_k2 (N : Nat) (r : Re) (o : List B) (ps : List Mp) (mn mx : Int) (htx : TxRe r) (hnd : nodes r ≤ 1000000) (ih : ∀ p ∈ ps, RMapAt N p) : RMapAt (N + 1) (.mk 2 r o ps mn mx) := by
  intro F y w hFw h
  obtain ⟨e1, e2, e3, e4, e5, hre, hlen, hps⟩ := h.open
  obtain ⟨k', yr, o', ad, n', cap, mn', mx'⟩ := y
  dsimp only at e1 e2 e3 e4 e5 hre hps
  subst k' o' n' mn' mx'
  have HPS := hid hps
  have HFW := hid hFw
  unfold maxLen at hlen
  have HB0 := hid ((Below.refl w.heap.size w).alloc (Nat.le_refl _) (.cells (Mw.cs ⟨2, yr, o, ad, ps.length, cap, mn, mx⟩) 36))
  have hblk : (w.alloc (.cells (Mw.cs ⟨2, yr, o, ad, ps.length, cap, mn, mx⟩) 36)).heap[w.heap.size]? = some (.cells (Mw.cs ⟨2, yr, o, ad, ps.length, cap, mn, mx⟩) 36 (0, 0)) := heap_alloc_new _ _
  have hsz0 : (w.alloc (.cells (Mw.cs ⟨2, yr, o, ad, ps.length, cap, mn, mx⟩) 36)).heap.size = w.heap.size + 1 := by simp
  have HBK := hid hblk
  have HN := hid (nodeE2 r o ps mn mx)
  have HR := hid (show rMapB (N + 1) (.mk 2 r o ps mn mx) = (nodeM (mwOf (.mk 2 r o ps mn mx)) r && ps.all (rMapB N)) from rfl)
  obtain ⟨b, hb⟩ : ∃ b : Bool, b = rMapB (N + 1) (.mk 2 r o ps mn mx) := ⟨_, rfl⟩
  rw [← hb] at HR ⊢
  clear hb
  have IH := hid ih
  have hsz := sameZ_any yr hre.rn
  rw [emptyRw_same hre] at hsz
  have hkk : (rwOf r).k = yr.k := hre.same.1.symm
  rw [hkk] at HN
  have hck := fun (W : World) (hW : Below w.heap.size w W) => checkR_any (F := F) (r := r) (cs := yr.cs) (w := W) (fun g hg => Nat.lt_of_lt_of_le (hFw g hg) hW.size) (hre.below hFw hW) htx hnd
  have HSZ := hid hsz
  have HCK := hid hck
  have HOK := hid (show okB r = (checkM r == 0) from rfl)
  clear h ih hps hFw hblk hre hsz hck hkk
  go_enter Tryz.func136, Tryz.ntmps136
  go_upto_region 1 with fail
  generalize w.alloc (.cells (Mw.cs ⟨2, yr, o, ad, ps.length, cap, mn, mx⟩) 36) = W0 at *
  go_wp2
  go_loopw [3] (fun v wr => ∃ i : Nat, i ≤ ps.length ∧ v = .int .i64 i ∧ Hid (∀ p, p ∈ ps.take i → rMapB N p = true) ∧ Hid (Below (w.heap.size + 1) W0 wr)) (fun v _ => ps.length - (RowKit.intOf v).toNat)
  case atStart => exact ⟨0, Nat.zero_le _, rfl, hid (fun p hp => by simp at hp), hid (Below.refl _ _)⟩
  case round =>
    obtain ⟨i, hi, rfl, HS, HB⟩ := hrel
    have hwr : Below w.heap.size w wr := HB0.out.trans (HB.out.mono (by omega))
    have hbk := (HB.out.block w.heap.size (by omega)).trans HBK.out
    have hsz : w.heap.size + 1 ≤ wr.heap.size := by have := HB.out.size; omega
    obtain ⟨c0, c1, c2, c3, c4, c5, c6, c7, c8, c9, c10, c11, c12, c13⟩ := fourteen_of hbk
    by_cases hlt : i < ps.length
    · have hgi : (i : Int) < (ps.length : Int) := by omega
      obtain ⟨g, off, rfl, hgF, hparts⟩ := HPS.out (by rintro rfl; simp at hlt)
      obtain ⟨z, hr1, hc⟩ := hparts.at (List.getElem?_eq_getElem hlt)
      obtain ⟨a0, a1, a2, a3, a4, a5, a6, a7, a8, a9, a10, a11, a12, a13⟩ := elem14_of (W := wr) (g := g) (o := off + i * 14) (y := z) fun j v hv => (hwr.cell (p := ⟨g, off + i * 14 + j, none⟩) (HFW.out g hgF)).trans (hc j v hv)
      have hcall := IH.out ps[i] (List.getElem_mem hlt) F _ wr (fun g hg => by have := HFW.out g hg; omega) (hr1.below HFW.out hwr)
      have HTS := hid (take_snoc hlt)
      have HM := hid (List.getElem_mem hlt)
      clear hparts hc hr1 hbk
      by_cases hd : rMapB N ps[i] = true
      · rw [hd] at hcall
        have hrelS := hid (show ∀ p, p ∈ ps.take (i + 1) → rMapB N p = true from fun p hp => by
          rw [HTS.out] at hp
          rcases List.mem_append.1 hp with hp | hp
          · exact HS.out p hp
          · rw [List.mem_singleton.1 hp]; exact hd)
        clear hd
        go_wp2_with (go_at_call 136; refine hcall.mono ?_; clear hcall; rintro e w3 ⟨rfl, hb3⟩)
        go_roundw
        case rel => exact ⟨i + 1, by omega, by go_num, hrelS, hid (HB.out.trans (hb3.mono (by omega)))⟩
        case measure => simp [RowKit.intOf]; omega
      · rw [Bool.not_eq_true] at hd
        rw [hd] at hcall
        have HD := hid hd
        clear hd
        go_wp2_with (go_at_call 136; refine hcall.mono ?_; clear hcall; rintro e w3 ⟨rfl, hb3⟩)
        go_ret
        exact ⟨bool_eq (by rw [HR.out, (List.all_eq_false.2 ⟨_, HM.out, by rw [HD.out]; simp⟩ : ps.all (rMapB N) = false), Bool.and_false]), hwr.trans (hb3.mono hwr.size)⟩
    · obtain rfl : i = ps.length := by omega
      have HT := hid (show b = nodeM (mwOf (.mk 2 r o ps mn mx)) r by
        rw [HR.out, (List.all_eq_true.2 fun p hp => HS.out p (by rw [List.take_length]; exact hp) : ps.all (rMapB N) = true), Bool.and_true])
      have HBK4 := hid hbk
      have HWR := hid hwr
      rw [HN.out] at HT
      clear hbk hlt hwr
      generalize checkM r = ck at *
      generalize okB r = ok at *
      generalize emptyRw (rwOf r) = ez at *
      by_cases hy1 : yr.k = 1
      · have q1 : (yr.k == 1) = true := by rw [hy1]; rfl
        have q2 : (yr.k == 2) = false := by rw [hy1]; rfl
        have q3 : (yr.k == 3) = false := by rw [hy1]; rfl
        have HAT := hid (show atomB yr.k = true by rw [hy1]; rfl)
        clear hy1
        go_wp2_with (first | (go_at_call 19; refine (HSZ.out _).mono ?_; rintro e w3 ⟨rfl, hb3⟩; have hbk3 := (hb3.block w.heap.size (by omega)).trans HBK4.out; have HW3 := hid (HWR.out.trans (hb3.mono HWR.out.size)); have HBK5 := hid hbk3; have HS3 := hid hb3.size; clear hb3 c0 c1 c2 c3 c4 c5 c6 c7 c8 c9 c10 c11 c12 c13; obtain ⟨c0, c1, c2, c3, c4, c5, c6, c7, c8, c9, c10, c11, c12, c13⟩ := fourteen_of hbk3; clear hbk3) | (go_at_call 71; refine (HCK.out _ HW3.out).mono ?_; rintro e w4 ⟨rfl, hb4⟩; have hbk4 := (hb4.block w.heap.size (by have := HS3.out; omega)).trans HBK5.out; have HW4 := hid (HW3.out.trans (hb4.mono HW3.out.size)); clear hb4 c0 c1 c2 c3 c4 c5 c6 c7 c8 c9 c10 c11 c12 c13; obtain ⟨c0, c1, c2, c3, c4, c5, c6, c7, c8, c9, c10, c11, c12, c13⟩ := fourteen_of hbk4; clear hbk4))
        all_goals
          go_ret
          refine ⟨bool_eq ?_, (by first | exact HW4.out | exact HW3.out)⟩
          rw [HT.out, HAT.out]
          first
            | (simp only [HOK.out, len_eq0]; simp [*]; done)
            | (rw [HOK.out]; simp [*]; done)
            | (by_cases hle : o.length ≤ 256 <;> first | (exfalso; omega) | (simp only [HOK.out, len_eq0]; simp [*]; done) | (rw [HOK.out]; simp [*]; done))
      by_cases hy2 : yr.k = 2
      · have q1 : (yr.k == 1) = false := by rw [hy2]; rfl
        have q2 : (yr.k == 2) = true := by rw [hy2]; rfl
        have q3 : (yr.k == 3) = false := by rw [hy2]; rfl
        have HAT := hid (show atomB yr.k = true by rw [hy2]; rfl)
        clear hy1 hy2
        go_wp2_with (first | (go_at_call 19; refine (HSZ.out _).mono ?_; rintro e w3 ⟨rfl, hb3⟩; have hbk3 := (hb3.block w.heap.size (by omega)).trans HBK4.out; have HW3 := hid (HWR.out.trans (hb3.mono HWR.out.size)); have HBK5 := hid hbk3; have HS3 := hid hb3.size; clear hb3 c0 c1 c2 c3 c4 c5 c6 c7 c8 c9 c10 c11 c12 c13; obtain ⟨c0, c1, c2, c3, c4, c5, c6, c7, c8, c9, c10, c11, c12, c13⟩ := fourteen_of hbk3; clear hbk3) | (go_at_call 71; refine (HCK.out _ HW3.out).mono ?_; rintro e w4 ⟨rfl, hb4⟩; have hbk4 := (hb4.block w.heap.size (by have := HS3.out; omega)).trans HBK5.out; have HW4 := hid (HW3.out.trans (hb4.mono HW3.out.size)); clear hb4 c0 c1 c2 c3 c4 c5 c6 c7 c8 c9 c10 c11 c12 c13; obtain ⟨c0, c1, c2, c3, c4, c5, c6, c7, c8, c9, c10, c11, c12, c13⟩ := fourteen_of hbk4; clear hbk4))
        all_goals
          go_ret
          refine ⟨bool_eq ?_, (by first | exact HW4.out | exact HW3.out)⟩
          rw [HT.out, HAT.out]
          first
            | (simp only [HOK.out, len_eq0]; simp [*]; done)
            | (rw [HOK.out]; simp [*]; done)
            | (by_cases hle : o.length ≤ 256 <;> first | (exfalso; omega) | (simp only [HOK.out, len_eq0]; simp [*]; done) | (rw [HOK.out]; simp [*]; done))
      by_cases hy3 : yr.k = 3
      · have q1 : (yr.k == 1) = false := by rw [hy3]; rfl
        have q2 : (yr.k == 2) = false := by rw [hy3]; rfl
        have q3 : (yr.k == 3) = true := by rw [hy3]; rfl
        have HAT := hid (show atomB yr.k = true by rw [hy3]; rfl)
        clear hy1 hy2 hy3
        go_wp2_with (first | (go_at_call 19; refine (HSZ.out _).mono ?_; rintro e w3 ⟨rfl, hb3⟩; have hbk3 := (hb3.block w.heap.size (by omega)).trans HBK4.out; have HW3 := hid (HWR.out.trans (hb3.mono HWR.out.size)); have HBK5 := hid hbk3; have HS3 := hid hb3.size; clear hb3 c0 c1 c2 c3 c4 c5 c6 c7 c8 c9 c10 c11 c12 c13; obtain ⟨c0, c1, c2, c3, c4, c5, c6, c7, c8, c9, c10, c11, c12, c13⟩ := fourteen_of hbk3; clear hbk3) | (go_at_call 71; refine (HCK.out _ HW3.out).mono ?_; rintro e w4 ⟨rfl, hb4⟩; have hbk4 := (hb4.block w.heap.size (by have := HS3.out; omega)).trans HBK5.out; have HW4 := hid (HW3.out.trans (hb4.mono HW3.out.size)); clear hb4 c0 c1 c2 c3 c4 c5 c6 c7 c8 c9 c10 c11 c12 c13; obtain ⟨c0, c1, c2, c3, c4, c5, c6, c7, c8, c9, c10, c11, c12, c13⟩ := fourteen_of hbk4; clear hbk4))
        all_goals
          go_ret
          refine ⟨bool_eq ?_, (by first | exact HW4.out | exact HW3.out)⟩
          rw [HT.out, HAT.out]
          first
            | (simp only [HOK.out, len_eq0]; simp [*]; done)
            | (rw [HOK.out]; simp [*]; done)
            | (by_cases hle : o.length ≤ 256 <;> first | (exfalso; omega) | (simp only [HOK.out, len_eq0]; simp [*]; done) | (rw [HOK.out]; simp [*]; done))
      have q1 : (yr.k == 1) = false := by simpa using hy1
      have q2 : (yr.k == 2) = false := by simpa using hy2
      have q3 : (yr.k == 3) = false := by simpa using hy3
      have HAT := hid (show atomB yr.k = false by unfold atomB; rw [decide_eq_false hy1, decide_eq_false hy2, decide_eq_false hy3]; rfl)
      clear hy1 hy2 hy3
      go_wp2_with (go_at_call 19; refine (HSZ.out _).mono ?_; rintro e w3 ⟨rfl, hb3⟩; have hbk3 := (hb3.block w.heap.size (by omega)).trans HBK4.out; have HW3 := hid (HWR.out.trans (hb3.mono HWR.out.size)); have HBK5 := hid hbk3; have HS3 := hid hb3.size; clear hb3 c0 c1 c2 c3 c4 c5 c6 c7 c8 c9 c10 c11 c12 c13; obtain ⟨c0, c1, c2, c3, c4, c5, c6, c7, c8, c9, c10, c11, c12, c13⟩ := fourteen_of hbk3; clear hbk3)
      all_goals
        go_ret
        refine ⟨bool_eq ?_, (by first | exact HW4.out | exact HW3.out)⟩
        rw [HT.out, HAT.out]
        first
          | (simp only [HOK.out]; simp [*]; done)
          | (rw [HOK.out]; simp [*]; done)
          | (by_cases hle : o.length ≤ 256 <;> first | (exfalso; omega) | (simp only [HOK.out, len_eq0]; simp [*]; done) | (rw [HOK.out]; simp [*]; done))
end Go.Proofs.YtfljcfdfgojdoaaGreatDoor.Sh.Rf
