/-
  The reference's rightMap, kind by kind. (Printed by genRq.py.)
  The reference's rightMap, kind by kind. (Printed by genRq.py.)
  The reference's rightMap as a whole, and Right. (Printed by genIq.py.)
-/
import Derived.Test.YtfljcfdfgojdoaaGreatDoorFa41
namespace Go.Proofs.YtfljcfdfgojdoaaGreatDoor.Sh.Rf
open Go.RowKit Go.Lib Go.Proofs.YtfljcfdfgojdoaaGreatDoor Go.Proofs.YtfljcfdfgojdoaaGreatDoor.Sh

set_option maxRecDepth 100000 in
set_option maxHeartbeats 8000000 in
theorem rm_k3 (N : Nat) (r : Re) (o : List B) (ps : List Mp) (mn mx : Int) (htx : TxRe r) (hnd : nodes r ≤ 1000000) (ih : ∀ p ∈ ps, RMapAt N p) : RMapAt (N + 1) (.mk 3 r o ps mn mx) := by
  intro F y w hFw h
  obtain ⟨e1, e2, e3, e4, e5, hre, hlen, hps⟩ := h.open
  obtain ⟨k', yr, o', ad, n', cap, mn', mx'⟩ := y
  dsimp only at e1 e2 e3 e4 e5 hre hps
  subst k' o' n' mn' mx'
  have HPS := hid hps
  have HFW := hid hFw
  unfold maxLen at hlen
  have HB0 := hid ((Below.refl w.heap.size w).alloc (Nat.le_refl _) (.cells (Mw.cs ⟨3, yr, o, ad, ps.length, cap, mn, mx⟩) 36))
  have hblk : (w.alloc (.cells (Mw.cs ⟨3, yr, o, ad, ps.length, cap, mn, mx⟩) 36)).heap[w.heap.size]? = some (.cells (Mw.cs ⟨3, yr, o, ad, ps.length, cap, mn, mx⟩) 36 (0, 0)) := heap_alloc_new _ _
  have hsz0 : (w.alloc (.cells (Mw.cs ⟨3, yr, o, ad, ps.length, cap, mn, mx⟩) 36)).heap.size = w.heap.size + 1 := by simp
  have HBK := hid hblk
  have HN := hid (nodeE34 3 (.inl rfl) r o ps mn mx)
  have HR := hid (show rMapB (N + 1) (.mk 3 r o ps mn mx) = (nodeM (mwOf (.mk 3 r o ps mn mx)) r && ps.all (rMapB N)) from rfl)
  obtain ⟨b, hb⟩ : ∃ b : Bool, b = rMapB (N + 1) (.mk 3 r o ps mn mx) := ⟨_, rfl⟩
  rw [← hb] at HR ⊢
  clear hb
  have IH := hid ih
  have hsz := sameZ_any yr hre.rn
  rw [emptyRw_same hre] at hsz
  have hck := fun (W : World) (hW : Below w.heap.size w W) => checkR_any (F := F) (r := r) (cs := yr.cs) (w := W) (fun g hg => Nat.lt_of_lt_of_le (hFw g hg) hW.size) (hre.below hFw hW) htx hnd
  have HSZ := hid hsz
  have HCK := hid hck
  have HOK := hid (show okB r = (checkM r == 0) from rfl)
  clear h ih hps hFw hblk hre hsz hck
  go_enter Tryz.func136, Tryz.ntmps136
  go_upto_region 1 with fail
  generalize w.alloc (.cells (Mw.cs ⟨3, yr, o, ad, ps.length, cap, mn, mx⟩) 36) = W0 at *
  go_wp2
  go_loopw [3] (fun v wr => ∃ i : Nat, i ≤ ps.length ∧ v = .int .i64 i ∧ Hid (∀ p, p ∈ ps.take i → rMapB N p = true) ∧ Hid (Below (w.heap.size + 1) W0 wr)) (fun v _ => ps.length - (RowKit.intOf v).toNat)
  case atStart => exact ⟨0, Nat.zero_le _, rfl, hid (fun p hp => by simp at hp), hid (Below.refl _ _)⟩
  case round =>
    obtain ⟨i, hi, rfl, HS, HB⟩ := hrel
    have hwr : Below w.heap.size w wr := HB0.out.trans (HB.out.mono (by omega))
    have hbk := (HB.out.block w.heap.size (by omega)).trans HBK.out
    have hsz : w.heap.size + 1 ≤ wr.heap.size := by have := HB.out.size; omega
    obtain ⟨c0, c1, c2, c3, c4, c5, c6, c7, c8, c9, c10, c11, c12, c13⟩ := fourteen_of hbk
    by_cases hlt : i < ps.length
    · have hgi : (i : Int) < (ps.length : Int) := by omega
      obtain ⟨g, off, rfl, hgF, hparts⟩ := HPS.out (by rintro rfl; simp at hlt)
      obtain ⟨z, hr1, hc⟩ := hparts.at (List.getElem?_eq_getElem hlt)
      obtain ⟨a0, a1, a2, a3, a4, a5, a6, a7, a8, a9, a10, a11, a12, a13⟩ := elem14_of (W := wr) (g := g) (o := off + i * 14) (y := z) fun j v hv => (hwr.cell (p := ⟨g, off + i * 14 + j, none⟩) (HFW.out g hgF)).trans (hc j v hv)
      have hcall := IH.out ps[i] (List.getElem_mem hlt) F _ wr (fun g hg => by have := HFW.out g hg; omega) (hr1.below HFW.out hwr)
      have HTS := hid (take_snoc hlt)
      have HM := hid (List.getElem_mem hlt)
      clear hparts hc hr1 hbk
      by_cases hd : rMapB N ps[i] = true
      · rw [hd] at hcall
        have hrelS := hid (show ∀ p, p ∈ ps.take (i + 1) → rMapB N p = true from fun p hp => by
          rw [HTS.out] at hp
          rcases List.mem_append.1 hp with hp | hp
          · exact HS.out p hp
          · rw [List.mem_singleton.1 hp]; exact hd)
        clear hd
        go_wp2_with (go_at_call 136; refine hcall.mono ?_; clear hcall; rintro e w3 ⟨rfl, hb3⟩)
        go_roundw
        case rel => exact ⟨i + 1, by omega, by go_num, hrelS, hid (HB.out.trans (hb3.mono (by omega)))⟩
        case measure => simp [RowKit.intOf]; omega
      · rw [Bool.not_eq_true] at hd
        rw [hd] at hcall
        have HD := hid hd
        clear hd
        go_wp2_with (go_at_call 136; refine hcall.mono ?_; clear hcall; rintro e w3 ⟨rfl, hb3⟩)
        go_ret
        exact ⟨bool_eq (by rw [HR.out, (List.all_eq_false.2 ⟨_, HM.out, by rw [HD.out]; simp⟩ : ps.all (rMapB N) = false), Bool.and_false]), hwr.trans (hb3.mono hwr.size)⟩
    · obtain rfl : i = ps.length := by omega
      have HT := hid (show b = nodeM (mwOf (.mk 3 r o ps mn mx)) r by
        rw [HR.out, (List.all_eq_true.2 fun p hp => HS.out p (by rw [List.take_length]; exact hp) : ps.all (rMapB N) = true), Bool.and_true])
      have HBK4 := hid hbk
      have HWR := hid hwr
      rw [HN.out] at HT
      clear hbk hlt hwr
      generalize checkM r = ck at *
      generalize okB r = ok at *
      generalize emptyRw (rwOf r) = ez at *
      go_wp2_with (go_at_call 19; refine (HSZ.out _).mono ?_; rintro e w3 ⟨rfl, hb3⟩; have hbk3 := (hb3.block w.heap.size (by omega)).trans HBK4.out; have HW3 := hid (HWR.out.trans (hb3.mono HWR.out.size)); have HBK5 := hid hbk3; have HS3 := hid hb3.size; clear hb3 c0 c1 c2 c3 c4 c5 c6 c7 c8 c9 c10 c11 c12 c13; obtain ⟨c0, c1, c2, c3, c4, c5, c6, c7, c8, c9, c10, c11, c12, c13⟩ := fourteen_of hbk3; clear hbk3)
      all_goals
        go_ret
        refine ⟨bool_eq ?_, (by first | exact HW4.out | exact HW3.out)⟩
        rw [HT.out]
        first
          | (simp only [len_ge2]; simp [*]; done)
          | (simp [*]; done)
set_option maxRecDepth 100000 in
set_option maxHeartbeats 8000000 in
theorem rm_k4 (N : Nat) (r : Re) (o : List B) (ps : List Mp) (mn mx : Int) (htx : TxRe r) (hnd : nodes r ≤ 1000000) (ih : ∀ p ∈ ps, RMapAt N p) : RMapAt (N + 1) (.mk 4 r o ps mn mx) := by
  intro F y w hFw h
  obtain ⟨e1, e2, e3, e4, e5, hre, hlen, hps⟩ := h.open
  obtain ⟨k', yr, o', ad, n', cap, mn', mx'⟩ := y
  dsimp only at e1 e2 e3 e4 e5 hre hps
  subst k' o' n' mn' mx'
  have HPS := hid hps
  have HFW := hid hFw
  unfold maxLen at hlen
  have HB0 := hid ((Below.refl w.heap.size w).alloc (Nat.le_refl _) (.cells (Mw.cs ⟨4, yr, o, ad, ps.length, cap, mn, mx⟩) 36))
  have hblk : (w.alloc (.cells (Mw.cs ⟨4, yr, o, ad, ps.length, cap, mn, mx⟩) 36)).heap[w.heap.size]? = some (.cells (Mw.cs ⟨4, yr, o, ad, ps.length, cap, mn, mx⟩) 36 (0, 0)) := heap_alloc_new _ _
  have hsz0 : (w.alloc (.cells (Mw.cs ⟨4, yr, o, ad, ps.length, cap, mn, mx⟩) 36)).heap.size = w.heap.size + 1 := by simp
  have HBK := hid hblk
  have HN := hid (nodeE34 4 (.inr rfl) r o ps mn mx)
  have HR := hid (show rMapB (N + 1) (.mk 4 r o ps mn mx) = (nodeM (mwOf (.mk 4 r o ps mn mx)) r && ps.all (rMapB N)) from rfl)
  obtain ⟨b, hb⟩ : ∃ b : Bool, b = rMapB (N + 1) (.mk 4 r o ps mn mx) := ⟨_, rfl⟩
  rw [← hb] at HR ⊢
  clear hb
  have IH := hid ih
  have hsz := sameZ_any yr hre.rn
  rw [emptyRw_same hre] at hsz
  have hck := fun (W : World) (hW : Below w.heap.size w W) => checkR_any (F := F) (r := r) (cs := yr.cs) (w := W) (fun g hg => Nat.lt_of_lt_of_le (hFw g hg) hW.size) (hre.below hFw hW) htx hnd
  have HSZ := hid hsz
  have HCK := hid hck
  have HOK := hid (show okB r = (checkM r == 0) from rfl)
  clear h ih hps hFw hblk hre hsz hck
  go_enter Tryz.func136, Tryz.ntmps136
  go_upto_region 1 with fail
  generalize w.alloc (.cells (Mw.cs ⟨4, yr, o, ad, ps.length, cap, mn, mx⟩) 36) = W0 at *
  go_wp2
  go_loopw [3] (fun v wr => ∃ i : Nat, i ≤ ps.length ∧ v = .int .i64 i ∧ Hid (∀ p, p ∈ ps.take i → rMapB N p = true) ∧ Hid (Below (w.heap.size + 1) W0 wr)) (fun v _ => ps.length - (RowKit.intOf v).toNat)
  case atStart => exact ⟨0, Nat.zero_le _, rfl, hid (fun p hp => by simp at hp), hid (Below.refl _ _)⟩
  case round =>
    obtain ⟨i, hi, rfl, HS, HB⟩ := hrel
    have hwr : Below w.heap.size w wr := HB0.out.trans (HB.out.mono (by omega))
    have hbk := (HB.out.block w.heap.size (by omega)).trans HBK.out
    have hsz : w.heap.size + 1 ≤ wr.heap.size := by have := HB.out.size; omega
    obtain ⟨c0, c1, c2, c3, c4, c5, c6, c7, c8, c9, c10, c11, c12, c13⟩ := fourteen_of hbk
    by_cases hlt : i < ps.length
    · have hgi : (i : Int) < (ps.length : Int) := by omega
      obtain ⟨g, off, rfl, hgF, hparts⟩ := HPS.out (by rintro rfl; simp at hlt)
      obtain ⟨z, hr1, hc⟩ := hparts.at (List.getElem?_eq_getElem hlt)
      obtain ⟨a0, a1, a2, a3, a4, a5, a6, a7, a8, a9, a10, a11, a12, a13⟩ := elem14_of (W := wr) (g := g) (o := off + i * 14) (y := z) fun j v hv => (hwr.cell (p := ⟨g, off + i * 14 + j, none⟩) (HFW.out g hgF)).trans (hc j v hv)
      have hcall := IH.out ps[i] (List.getElem_mem hlt) F _ wr (fun g hg => by have := HFW.out g hg; omega) (hr1.below HFW.out hwr)
      have HTS := hid (take_snoc hlt)
      have HM := hid (List.getElem_mem hlt)
      clear hparts hc hr1 hbk
      by_cases hd : rMapB N ps[i] = true
      · rw [hd] at hcall
        have hrelS := hid (show ∀ p, p ∈ ps.take (i + 1) → rMapB N p = true from fun p hp => by
          rw [HTS.out] at hp
          rcases List.mem_append.1 hp with hp | hp
          · exact HS.out p hp
          · rw [List.mem_singleton.1 hp]; exact hd)
        clear hd
        go_wp2_with (go_at_call 136; refine hcall.mono ?_; clear hcall; rintro e w3 ⟨rfl, hb3⟩)
        go_roundw
        case rel => exact ⟨i + 1, by omega, by go_num, hrelS, hid (HB.out.trans (hb3.mono (by omega)))⟩
        case measure => simp [RowKit.intOf]; omega
      · rw [Bool.not_eq_true] at hd
        rw [hd] at hcall
        have HD := hid hd
        clear hd
        go_wp2_with (go_at_call 136; refine hcall.mono ?_; clear hcall; rintro e w3 ⟨rfl, hb3⟩)
        go_ret
        exact ⟨bool_eq (by rw [HR.out, (List.all_eq_false.2 ⟨_, HM.out, by rw [HD.out]; simp⟩ : ps.all (rMapB N) = false), Bool.and_false]), hwr.trans (hb3.mono hwr.size)⟩
    · obtain rfl : i = ps.length := by omega
      have HT := hid (show b = nodeM (mwOf (.mk 4 r o ps mn mx)) r by
        rw [HR.out, (List.all_eq_true.2 fun p hp => HS.out p (by rw [List.take_length]; exact hp) : ps.all (rMapB N) = true), Bool.and_true])
      have HBK4 := hid hbk
      have HWR := hid hwr
      rw [HN.out] at HT
      clear hbk hlt hwr
      generalize checkM r = ck at *
      generalize okB r = ok at *
      generalize emptyRw (rwOf r) = ez at *
      go_wp2_with (go_at_call 19; refine (HSZ.out _).mono ?_; rintro e w3 ⟨rfl, hb3⟩; have hbk3 := (hb3.block w.heap.size (by omega)).trans HBK4.out; have HW3 := hid (HWR.out.trans (hb3.mono HWR.out.size)); have HBK5 := hid hbk3; have HS3 := hid hb3.size; clear hb3 c0 c1 c2 c3 c4 c5 c6 c7 c8 c9 c10 c11 c12 c13; obtain ⟨c0, c1, c2, c3, c4, c5, c6, c7, c8, c9, c10, c11, c12, c13⟩ := fourteen_of hbk3; clear hbk3)
      all_goals
        go_ret
        refine ⟨bool_eq ?_, (by first | exact HW4.out | exact HW3.out)⟩
        rw [HT.out]
        first
          | (simp only [len_ge2]; simp [*]; done)
          | (simp [*]; done)
set_option maxRecDepth 100000 in
set_option maxHeartbeats 8000000 in
theorem rm_other (N : Nat) {k : Int} (k1 : ¬ k = 1) (k2 : ¬ k = 2) (k3 : ¬ k = 3) (k4 : ¬ k = 4) (k5 : ¬ k = 5) (r : Re) (o : List B) (ps : List Mp) (mn mx : Int) (htx : TxRe r) (hnd : nodes r ≤ 1000000) (ih : ∀ p ∈ ps, RMapAt N p) : RMapAt (N + 1) (.mk k r o ps mn mx) := by
  intro F y w hFw h
  obtain ⟨e1, e2, e3, e4, e5, hre, hlen, hps⟩ := h.open
  obtain ⟨k', yr, o', ad, n', cap, mn', mx'⟩ := y
  dsimp only at e1 e2 e3 e4 e5 hre hps
  subst k' o' n' mn' mx'
  have HPS := hid hps
  have HFW := hid hFw
  unfold maxLen at hlen
  have HB0 := hid ((Below.refl w.heap.size w).alloc (Nat.le_refl _) (.cells (Mw.cs ⟨k, yr, o, ad, ps.length, cap, mn, mx⟩) 36))
  have hblk : (w.alloc (.cells (Mw.cs ⟨k, yr, o, ad, ps.length, cap, mn, mx⟩) 36)).heap[w.heap.size]? = some (.cells (Mw.cs ⟨k, yr, o, ad, ps.length, cap, mn, mx⟩) 36 (0, 0)) := heap_alloc_new _ _
  have hsz0 : (w.alloc (.cells (Mw.cs ⟨k, yr, o, ad, ps.length, cap, mn, mx⟩) 36)).heap.size = w.heap.size + 1 := by simp
  have HBK := hid hblk
  have HN := hid (nodeE0 k k1 k2 k3 k4 k5 r o ps mn mx)
  have HR := hid (show rMapB (N + 1) (.mk k r o ps mn mx) = (nodeM (mwOf (.mk k r o ps mn mx)) r && ps.all (rMapB N)) from rfl)
  obtain ⟨b, hb⟩ : ∃ b : Bool, b = rMapB (N + 1) (.mk k r o ps mn mx) := ⟨_, rfl⟩
  rw [← hb] at HR ⊢
  clear hb
  have IH := hid ih
  have hsz := sameZ_any yr hre.rn
  rw [emptyRw_same hre] at hsz
  have hck := fun (W : World) (hW : Below w.heap.size w W) => checkR_any (F := F) (r := r) (cs := yr.cs) (w := W) (fun g hg => Nat.lt_of_lt_of_le (hFw g hg) hW.size) (hre.below hFw hW) htx hnd
  have HSZ := hid hsz
  have HCK := hid hck
  have HOK := hid (show okB r = (checkM r == 0) from rfl)
  have q1 : (k == 1) = false := by simpa using k1
  have q2 : (k == 2) = false := by simpa using k2
  have q3 : (k == 3) = false := by simpa using k3
  have q4 : (k == 4) = false := by simpa using k4
  have q5 : (k == 5) = false := by simpa using k5
  clear h ih hps hFw hblk hre hsz hck k1 k2 k3 k4 k5
  go_enter Tryz.func136, Tryz.ntmps136
  go_upto_region 1 with fail
  generalize w.alloc (.cells (Mw.cs ⟨k, yr, o, ad, ps.length, cap, mn, mx⟩) 36) = W0 at *
  go_wp2
  go_loopw [3] (fun v wr => ∃ i : Nat, i ≤ ps.length ∧ v = .int .i64 i ∧ Hid (∀ p, p ∈ ps.take i → rMapB N p = true) ∧ Hid (Below (w.heap.size + 1) W0 wr)) (fun v _ => ps.length - (RowKit.intOf v).toNat)
  case atStart => exact ⟨0, Nat.zero_le _, rfl, hid (fun p hp => by simp at hp), hid (Below.refl _ _)⟩
  case round =>
    obtain ⟨i, hi, rfl, HS, HB⟩ := hrel
    have hwr : Below w.heap.size w wr := HB0.out.trans (HB.out.mono (by omega))
    have hbk := (HB.out.block w.heap.size (by omega)).trans HBK.out
    have hsz : w.heap.size + 1 ≤ wr.heap.size := by have := HB.out.size; omega
    obtain ⟨c0, c1, c2, c3, c4, c5, c6, c7, c8, c9, c10, c11, c12, c13⟩ := fourteen_of hbk
    by_cases hlt : i < ps.length
    · have hgi : (i : Int) < (ps.length : Int) := by omega
      obtain ⟨g, off, rfl, hgF, hparts⟩ := HPS.out (by rintro rfl; simp at hlt)
      obtain ⟨z, hr1, hc⟩ := hparts.at (List.getElem?_eq_getElem hlt)
      obtain ⟨a0, a1, a2, a3, a4, a5, a6, a7, a8, a9, a10, a11, a12, a13⟩ := elem14_of (W := wr) (g := g) (o := off + i * 14) (y := z) fun j v hv => (hwr.cell (p := ⟨g, off + i * 14 + j, none⟩) (HFW.out g hgF)).trans (hc j v hv)
      have hcall := IH.out ps[i] (List.getElem_mem hlt) F _ wr (fun g hg => by have := HFW.out g hg; omega) (hr1.below HFW.out hwr)
      have HTS := hid (take_snoc hlt)
      have HM := hid (List.getElem_mem hlt)
      clear hparts hc hr1 hbk
      by_cases hd : rMapB N ps[i] = true
      · rw [hd] at hcall
        have hrelS := hid (show ∀ p, p ∈ ps.take (i + 1) → rMapB N p = true from fun p hp => by
          rw [HTS.out] at hp
          rcases List.mem_append.1 hp with hp | hp
          · exact HS.out p hp
          · rw [List.mem_singleton.1 hp]; exact hd)
        clear hd
        go_wp2_with (go_at_call 136; refine hcall.mono ?_; clear hcall; rintro e w3 ⟨rfl, hb3⟩)
        go_roundw
        case rel => exact ⟨i + 1, by omega, by go_num, hrelS, hid (HB.out.trans (hb3.mono (by omega)))⟩
        case measure => simp [RowKit.intOf]; omega
      · rw [Bool.not_eq_true] at hd
        rw [hd] at hcall
        have HD := hid hd
        clear hd
        go_wp2_with (go_at_call 136; refine hcall.mono ?_; clear hcall; rintro e w3 ⟨rfl, hb3⟩)
        go_ret
        exact ⟨bool_eq (by rw [HR.out, (List.all_eq_false.2 ⟨_, HM.out, by rw [HD.out]; simp⟩ : ps.all (rMapB N) = false), Bool.and_false]), hwr.trans (hb3.mono hwr.size)⟩
    · obtain rfl : i = ps.length := by omega
      have HT := hid (show b = nodeM (mwOf (.mk k r o ps mn mx)) r by
        rw [HR.out, (List.all_eq_true.2 fun p hp => HS.out p (by rw [List.take_length]; exact hp) : ps.all (rMapB N) = true), Bool.and_true])
      have HBK4 := hid hbk
      have HWR := hid hwr
      rw [HN.out] at HT
      clear hbk hlt hwr
      generalize checkM r = ck at *
      generalize okB r = ok at *
      generalize emptyRw (rwOf r) = ez at *
      go_wp2_with (go_at_call 19; refine (HSZ.out _).mono ?_; rintro e w3 ⟨rfl, hb3⟩; have hbk3 := (hb3.block w.heap.size (by omega)).trans HBK4.out; have HW3 := hid (HWR.out.trans (hb3.mono HWR.out.size)); have HBK5 := hid hbk3; have HS3 := hid hb3.size; clear hb3 c0 c1 c2 c3 c4 c5 c6 c7 c8 c9 c10 c11 c12 c13; obtain ⟨c0, c1, c2, c3, c4, c5, c6, c7, c8, c9, c10, c11, c12, c13⟩ := fourteen_of hbk3; clear hbk3)
      all_goals
        go_ret
        refine ⟨bool_eq ?_, (by first | exact HW4.out | exact HW3.out)⟩
        rw [HT.out]
end Go.Proofs.YtfljcfdfgojdoaaGreatDoor.Sh.Rf

namespace Go.Proofs.YtfljcfdfgojdoaaGreatDoor.Sh.Rf
open Go.RowKit Go.Lib Go.Proofs.YtfljcfdfgojdoaaGreatDoor Go.Proofs.YtfljcfdfgojdoaaGreatDoor.Sh

set_option maxRecDepth 100000 in
set_option maxHeartbeats 8000000 in
theorem rm_k5 (N : Nat) (r : Re) (o : List B) (ps : List Mp) (mn mx : Int) (htx : TxRe r) (hnd : nodes r ≤ 1000000) (ih : ∀ p ∈ ps, RMapAt N p) : RMapAt (N + 1) (.mk 5 r o ps mn mx) := by
  intro F y w hFw h
  obtain ⟨e1, e2, e3, e4, e5, hre, hlen, hps⟩ := h.open
  obtain ⟨k', yr, o', ad, n', cap, mn', mx'⟩ := y
  dsimp only at e1 e2 e3 e4 e5 hre hps
  subst k' o' n' mn' mx'
  have HPS := hid hps
  have HFW := hid hFw
  unfold maxLen at hlen
  have HB0 := hid ((Below.refl w.heap.size w).alloc (Nat.le_refl _) (.cells (Mw.cs ⟨5, yr, o, ad, ps.length, cap, mn, mx⟩) 36))
  have hblk : (w.alloc (.cells (Mw.cs ⟨5, yr, o, ad, ps.length, cap, mn, mx⟩) 36)).heap[w.heap.size]? = some (.cells (Mw.cs ⟨5, yr, o, ad, ps.length, cap, mn, mx⟩) 36 (0, 0)) := heap_alloc_new _ _
  have hsz0 : (w.alloc (.cells (Mw.cs ⟨5, yr, o, ad, ps.length, cap, mn, mx⟩) 36)).heap.size = w.heap.size + 1 := by simp
  have HBK := hid hblk
  have HN := hid (nodeE5 r o ps mn mx)
  have HR := hid (show rMapB (N + 1) (.mk 5 r o ps mn mx) = (nodeM (mwOf (.mk 5 r o ps mn mx)) r && ps.all (rMapB N)) from rfl)
  obtain ⟨b, hb⟩ : ∃ b : Bool, b = rMapB (N + 1) (.mk 5 r o ps mn mx) := ⟨_, rfl⟩
  rw [← hb] at HR ⊢
  clear hb
  have IH := hid ih
  have hsz := sameZ_any yr hre.rn
  rw [emptyRw_same hre] at hsz
  have hck := fun (W : World) (hW : Below w.heap.size w W) => checkR_any (F := F) (r := r) (cs := yr.cs) (w := W) (fun g hg => Nat.lt_of_lt_of_le (hFw g hg) hW.size) (hre.below hFw hW) htx hnd
  have HSZ := hid hsz
  have HCK := hid hck
  have HOK := hid (show okB r = (checkM r == 0) from rfl)
  clear h ih hps hFw hblk hre hsz hck
  go_enter Tryz.func136, Tryz.ntmps136
  go_upto_region 1 with fail
  generalize w.alloc (.cells (Mw.cs ⟨5, yr, o, ad, ps.length, cap, mn, mx⟩) 36) = W0 at *
  go_wp2
  go_loopw [3] (fun v wr => ∃ i : Nat, i ≤ ps.length ∧ v = .int .i64 i ∧ Hid (∀ p, p ∈ ps.take i → rMapB N p = true) ∧ Hid (Below (w.heap.size + 1) W0 wr)) (fun v _ => ps.length - (RowKit.intOf v).toNat)
  case atStart => exact ⟨0, Nat.zero_le _, rfl, hid (fun p hp => by simp at hp), hid (Below.refl _ _)⟩
  case round =>
    obtain ⟨i, hi, rfl, HS, HB⟩ := hrel
    have hwr : Below w.heap.size w wr := HB0.out.trans (HB.out.mono (by omega))
    have hbk := (HB.out.block w.heap.size (by omega)).trans HBK.out
    have hsz : w.heap.size + 1 ≤ wr.heap.size := by have := HB.out.size; omega
    obtain ⟨c0, c1, c2, c3, c4, c5, c6, c7, c8, c9, c10, c11, c12, c13⟩ := fourteen_of hbk
    by_cases hlt : i < ps.length
    · have hgi : (i : Int) < (ps.length : Int) := by omega
      obtain ⟨g, off, rfl, hgF, hparts⟩ := HPS.out (by rintro rfl; simp at hlt)
      obtain ⟨z, hr1, hc⟩ := hparts.at (List.getElem?_eq_getElem hlt)
      obtain ⟨a0, a1, a2, a3, a4, a5, a6, a7, a8, a9, a10, a11, a12, a13⟩ := elem14_of (W := wr) (g := g) (o := off + i * 14) (y := z) fun j v hv => (hwr.cell (p := ⟨g, off + i * 14 + j, none⟩) (HFW.out g hgF)).trans (hc j v hv)
      have hcall := IH.out ps[i] (List.getElem_mem hlt) F _ wr (fun g hg => by have := HFW.out g hg; omega) (hr1.below HFW.out hwr)
      have HTS := hid (take_snoc hlt)
      have HM := hid (List.getElem_mem hlt)
      clear hparts hc hr1 hbk
      by_cases hd : rMapB N ps[i] = true
      · rw [hd] at hcall
        have hrelS := hid (show ∀ p, p ∈ ps.take (i + 1) → rMapB N p = true from fun p hp => by
          rw [HTS.out] at hp
          rcases List.mem_append.1 hp with hp | hp
          · exact HS.out p hp
          · rw [List.mem_singleton.1 hp]; exact hd)
        clear hd
        go_wp2_with (go_at_call 136; refine hcall.mono ?_; clear hcall; rintro e w3 ⟨rfl, hb3⟩)
        go_roundw
        case rel => exact ⟨i + 1, by omega, by go_num, hrelS, hid (HB.out.trans (hb3.mono (by omega)))⟩
        case measure => simp [RowKit.intOf]; omega
      · rw [Bool.not_eq_true] at hd
        rw [hd] at hcall
        have HD := hid hd
        clear hd
        go_wp2_with (go_at_call 136; refine hcall.mono ?_; clear hcall; rintro e w3 ⟨rfl, hb3⟩)
        go_ret
        exact ⟨bool_eq (by rw [HR.out, (List.all_eq_false.2 ⟨_, HM.out, by rw [HD.out]; simp⟩ : ps.all (rMapB N) = false), Bool.and_false]), hwr.trans (hb3.mono hwr.size)⟩
    · obtain rfl : i = ps.length := by omega
      have HT := hid (show b = nodeM (mwOf (.mk 5 r o ps mn mx)) r by
        rw [HR.out, (List.all_eq_true.2 fun p hp => HS.out p (by rw [List.take_length]; exact hp) : ps.all (rMapB N) = true), Bool.and_true])
      have HBK4 := hid hbk
      have HWR := hid hwr
      rw [HN.out] at HT
      clear hbk hlt hwr
      generalize checkM r = ck at *
      generalize okB r = ok at *
      generalize emptyRw (rwOf r) = ez at *
      go_wp2_with (go_at_call 19; refine (HSZ.out _).mono ?_; rintro e w3 ⟨rfl, hb3⟩; have hbk3 := (hb3.block w.heap.size (by omega)).trans HBK4.out; have HW3 := hid (HWR.out.trans (hb3.mono HWR.out.size)); have HBK5 := hid hbk3; have HS3 := hid hb3.size; clear hb3 c0 c1 c2 c3 c4 c5 c6 c7 c8 c9 c10 c11 c12 c13; obtain ⟨c0, c1, c2, c3, c4, c5, c6, c7, c8, c9, c10, c11, c12, c13⟩ := fourteen_of hbk3; clear hbk3)
      all_goals
        go_ret
        refine ⟨bool_eq ?_, (by first | exact HW4.out | exact HW3.out)⟩
        rw [HT.out]
        first
          | (simp only [len_eq1]; simp [*]; done)
          | (simp [*]; done)
          | (by_cases hn1 : ps.length = 1 <;> first | (exfalso; omega) | (simp [*]; done) | (rw [Bool.eq_iff_iff]; simp [*]; done) | (rw [Bool.eq_iff_iff]; simp [*]; omega))
end Go.Proofs.YtfljcfdfgojdoaaGreatDoor.Sh.Rf

namespace Go.Proofs.YtfljcfdfgojdoaaGreatDoor.Sh.Rf
open Go.RowKit Go.Lib Go.Proofs.YtfljcfdfgojdoaaGreatDoor Go.Proofs.YtfljcfdfgojdoaaGreatDoor.Sh

theorem rmapR_any : ∀ (n : Nat) (m : Mp), mtreeB n m = true → TxMp m → NdMp m → RMapAt n m
  | 0, .mk _ _ _ _ _ _, h, _, _ => by cases h
  | n + 1, .mk k r o ps mn mx, h, ht, hn => by
    have ih : ∀ p ∈ ps, RMapAt n p := fun p hp => rmapR_any n p (List.all_eq_true.1 (show ps.all (mtreeB n) = true from h) p hp) (ht.part hp) (hn.part hp)
    have hnd : nodes r ≤ 1000000 := by have := hn.re; omega
    by_cases k1 : k = 1
    · subst k1; exact rm_k1 n r o ps mn mx ht.re hnd ih
    by_cases k2 : k = 2
    · subst k2; exact rm_k2 n r o ps mn mx ht.re hnd ih
    by_cases k3 : k = 3
    · subst k3; exact rm_k3 n r o ps mn mx ht.re hnd ih
    by_cases k4 : k = 4
    · subst k4; exact rm_k4 n r o ps mn mx ht.re hnd ih
    by_cases k5 : k = 5
    · subst k5; exact rm_k5 n r o ps mn mx ht.re hnd ih
    exact rm_other n k1 k2 k3 k4 k5 r o ps mn mx ht.re hnd ih
set_option maxRecDepth 100000 in
set_option maxHeartbeats 4000000 in
theorem mrightR_any {F : Nat → Prop} {m : Mp} {y : Mw} {w : World} (hFw : ∀ g, F g → g < w.heap.size) (h : MpG F w m y) (ht : TxMp m) (hn : NdMp m) :
    Calls Tryz.prog 89 #[.agg y.cs] w fun e w' => e = .returned (.bool (mrightB 200 m)) ∧ Below w.heap.size w w' := by
  obtain ⟨k, yr, o, ad, n, cap, mn, mx⟩ := y
  have HB0 := hid ((Below.refl w.heap.size w).alloc (Nat.le_refl _) (.cells (Mw.cs ⟨k, yr, o, ad, n, cap, mn, mx⟩) 36))
  have hblk : (w.alloc (.cells (Mw.cs ⟨k, yr, o, ad, n, cap, mn, mx⟩) 36)).heap[w.heap.size]? = some (.cells (Mw.cs ⟨k, yr, o, ad, n, cap, mn, mx⟩) 36 (0, 0)) := heap_alloc_new _ _
  have hsz0 : (w.alloc (.cells (Mw.cs ⟨k, yr, o, ad, n, cap, mn, mx⟩) 36)).heap.size = w.heap.size + 1 := by simp
  have HBK := hid hblk
  obtain ⟨c0, c1, c2, c3, c4, c5, c6, c7, c8, c9, c10, c11, c12, c13⟩ := fourteen_of hblk
  have HM := hid (mright_split 200 m)
  have htree := tree_any 200 m F _ (w.alloc (.cells (Mw.cs ⟨k, yr, o, ad, n, cap, mn, mx⟩) 36)) 1 rfl (fun g hg => by have := hFw g hg; omega) (h.below hFw HB0.out)
  by_cases ht2 : mtreeB 200 m = true
  · skip
    have HRM := hid (fun (W : World) (hW : Below w.heap.size w W) => rmapR_any 200 m ht2 ht hn F _ W (fun g hg => Nat.lt_of_lt_of_le (hFw g hg) hW.size) (h.below hFw hW))
    have HV := hid (show mrightB 200 m = rMapB 200 m by rw [HM.out, ht2, Bool.true_and])
    rw [ht2] at htree
    clear h hFw ht2 hblk ht hn
    go_enter Tryz.func89, Tryz.ntmps89
    go_upto_region 1 with fail
    generalize w.alloc (.cells (Mw.cs ⟨k, yr, o, ad, n, cap, mn, mx⟩) 36) = W0 at *
    go_wp2_with (first | (go_at_call 135; refine htree.mono ?_; clear htree; rintro e W1 ⟨rfl, hb1⟩; have HB1 := hid (HB0.out.trans (hb1.mono (by omega))); have hbk1 := (hb1.block w.heap.size (by omega)).trans HBK.out; clear hb1 c0 c1 c2 c3 c4 c5 c6 c7 c8 c9 c10 c11 c12 c13; obtain ⟨c0, c1, c2, c3, c4, c5, c6, c7, c8, c9, c10, c11, c12, c13⟩ := fourteen_of hbk1; clear hbk1) | (go_at_call 136; refine (HRM.out _ HB1.out).mono ?_; rintro e W2 ⟨rfl, hb2⟩; have HB2 := hid (HB1.out.trans (hb2.mono HB1.out.size))))
    go_ret
    exact ⟨bool_eq HV.out.symm, HB2.out⟩
  · skip
    rw [Bool.not_eq_true] at ht2
    have HV := hid (show mrightB 200 m = false by rw [HM.out, ht2, Bool.false_and])
    rw [ht2] at htree
    clear h hFw ht2 hblk ht hn
    go_enter Tryz.func89, Tryz.ntmps89
    go_upto_region 1 with fail
    generalize w.alloc (.cells (Mw.cs ⟨k, yr, o, ad, n, cap, mn, mx⟩) 36) = W0 at *
    go_wp2_with (go_at_call 135; refine htree.mono ?_; clear htree; rintro e W1 ⟨rfl, hb1⟩; have HB1 := hid (HB0.out.trans (hb1.mono (by omega))); have hbk1 := (hb1.block w.heap.size (by omega)).trans HBK.out; clear hb1 c0 c1 c2 c3 c4 c5 c6 c7 c8 c9 c10 c11 c12 c13; obtain ⟨c0, c1, c2, c3, c4, c5, c6, c7, c8, c9, c10, c11, c12, c13⟩ := fourteen_of hbk1; clear hbk1)
    go_ret
    exact ⟨bool_eq HV.out.symm, HB1.out⟩
end Go.Proofs.YtfljcfdfgojdoaaGreatDoor.Sh.Rf
