/-
  The reference's right, the rest. (Printed by genRr.py.)
-/
import Derived.Test.YtfljcfdfgojdoaaGreatDoorFa35
namespace Go.Proofs.YtfljcfdfgojdoaaGreatDoor.Sh.Rf
open Go.RowKit Go.Lib Go.Proofs.YtfljcfdfgojdoaaGreatDoor Go.Proofs.YtfljcfdfgojdoaaGreatDoor.Sh

set_option maxRecDepth 100000 in
set_option maxHeartbeats 8000000 in
theorem rr_k4 (N : Nat) (x : List B) (s : Se) (ps : List Re) (mn mx : Int) (_hx6 : x.length ≤ 140737488351232) (ih : ∀ p ∈ ps, RightRAt N p) : RightRAt (N + 1) (.mk 4 x s ps mn mx) := by
  intro F cs w hFw h
  obtain ⟨ad, cap, rfl, hlen, hps⟩ := h.open
  have HN := hid (show nodeB 4 x s ps.length mn mx = (decide (2 ≤ ps.length) && (decide (x = []) && (noneB s && (decide (mn = 0) && decide (mx = 0))))) from rfl)
  have HR := hid (rightB_succ N 4 x s ps mn mx)
  obtain ⟨b, hb⟩ : ∃ b : Bool, b = rightB (N + 1) (.mk 4 x s ps mn mx) := ⟨_, rfl⟩
  rw [← hb] at HR
  have HBB := hid hb
  rw [← hb]
  clear hb
  have IH := hid ih
  have HPS := hid hps
  have HFW := hid hFw
  unfold maxLen at hlen
  have HB0 := hid ((Below.refl w.heap.size w).alloc (Nat.le_refl _) (.cells (reC 4 x s (.slice ad ps.length cap) mn mx) 33))
  have hblk : (w.alloc (.cells (reC 4 x s (.slice ad ps.length cap) mn mx) 33)).heap[w.heap.size]? = some (.cells (reC 4 x s (.slice ad ps.length cap) mn mx) 33 (0, 0)) := heap_alloc_new _ _
  have hsz0 : (w.alloc (.cells (reC 4 x s (.slice ad ps.length cap) mn mx) 33)).heap.size = w.heap.size + 1 := by simp
  have HBK := hid hblk
  have e24 := eq24
  clear h ih hps hFw hblk
  go_enter Tryz.func128, Tryz.ntmps128
  go_upto_region 1 with fail
  generalize w.alloc (.cells (reC 4 x s (.slice ad ps.length cap) mn mx) 33) = W0 at *
  go_wp2
  go_loopw [3] (fun v wr => ∃ i : Nat, i ≤ ps.length ∧ v = .int .i64 i ∧ Hid (∀ p, p ∈ ps.take i → rightB N p = true) ∧ Hid (Below (w.heap.size + 1) W0 wr)) (fun v _ => ps.length - (RowKit.intOf v).toNat)
  case atStart => exact ⟨0, Nat.zero_le _, rfl, hid (fun p hp => by simp at hp), hid (Below.refl _ _)⟩
  case round =>
    obtain ⟨i, hi, rfl, HS, HB⟩ := hrel
    have hwr : Below w.heap.size w wr := HB0.out.trans (HB.out.mono (by omega))
    have hbk := (HB.out.block w.heap.size (by omega)).trans HBK.out
    have hsz : w.heap.size + 1 ≤ wr.heap.size := by have := HB.out.size; omega
    obtain ⟨c0, c1, c2, c3, c4, c5, c6, c7, c8⟩ := nine_of hbk
    by_cases hlt : i < ps.length
    · have hgi : (i : Int) < (ps.length : Int) := by omega
      obtain ⟨g, off, rfl, hgF, hparts⟩ := HPS.out (by rintro rfl; simp at hlt)
      obtain ⟨k1, x1, s1, ad1, n1, cap1, mn1, mx1, hr1, hc⟩ := hparts.at (List.getElem?_eq_getElem hlt)
      obtain ⟨a0, a1, a2, a3, a4, a5, a6, a7, a8⟩ := elem9_of (W := wr) (g := g) (o := off + i * 9) fun j v hv => (hwr.cell (p := ⟨g, off + i * 9 + j, none⟩) (HFW.out g hgF)).trans (hc j v hv)
      have hcall := IH.out ps[i] (List.getElem_mem hlt) F _ wr (fun g hg => by have := HFW.out g hg; omega) (hr1.below HFW.out hwr)
      have HTS := hid (take_snoc hlt)
      have HM := hid (List.getElem_mem hlt)
      clear hparts hc hr1 hbk
      by_cases hd : rightB N ps[i] = true
      · rw [hd] at hcall
        have hrelS := hid (show ∀ p, p ∈ ps.take (i + 1) → rightB N p = true from fun p hp => by
          rw [HTS.out] at hp
          rcases List.mem_append.1 hp with hp | hp
          · exact HS.out p hp
          · rw [List.mem_singleton.1 hp]; exact hd)
        clear hd
        go_wp2_with (go_at_call 128; refine hcall.mono ?_; clear hcall; rintro e w3 ⟨rfl, hb3⟩)
        go_roundw
        case rel => exact ⟨i + 1, by omega, by go_num, hrelS, hid (HB.out.trans (hb3.mono (by omega)))⟩
        case measure => simp [RowKit.intOf]; omega
      · rw [Bool.not_eq_true] at hd
        rw [hd] at hcall
        have HD := hid hd
        clear hd
        go_wp2_with (go_at_call 128; refine hcall.mono ?_; clear hcall; rintro e w3 ⟨rfl, hb3⟩)
        go_ret
        exact ⟨bool_eq (by rw [HR.out, (List.all_eq_false.2 ⟨_, HM.out, by rw [HD.out]; simp⟩ : ps.all (rightB N) = false), Bool.and_false]), hwr.trans (hb3.mono hwr.size)⟩
    · obtain rfl : i = ps.length := by omega
      have HT := hid (show b = nodeB 4 x s ps.length mn mx by
        rw [HR.out, (List.all_eq_true.2 fun p hp => HS.out p (by rw [List.take_length]; exact hp) : ps.all (rightB N) = true), Bool.and_true])
      have HBK4 := hid hbk
      clear hbk hlt
      go_wp2
      all_goals
        go_ret
        refine ⟨bool_eq ?_, hwr⟩
        rw [HT.out, HN.out]
        first
          | (simp only [noneB_dec, len_ge2]; simp [*]; done)
          | (simp only [noneB_dec]; simp [*]; done)
          | (simp [*]; done)
          | (by_cases hle : x.length ≤ 256 <;> first | (exfalso; omega) | (simp only [noneB_dec, len_eq0]; simp [*]; done) | (simp [*]; done))
          | (by_cases hn1 : ps.length = 1 <;> first | (exfalso; omega) | (simp [*, noneB_dec, oftB_iff]; done) | (rw [Bool.eq_iff_iff]; simp [*, noneB_dec, oftB_iff]; done) | (rw [Bool.eq_iff_iff]; simp [*, noneB_dec, oftB_iff]; omega) | (simp [*, noneB_dec, oftB_iff]; omega) | (simp [*, noneB_dec, oftB_iff]; intros; omega) | (rw [Bool.eq_iff_iff]; simp [*, noneB_dec, oftB_iff]; constructor <;> (intros; omega)))
set_option maxRecDepth 100000 in
set_option maxHeartbeats 8000000 in
theorem rr_k5 (N : Nat) (x : List B) (s : Se) (ps : List Re) (mn mx : Int) (_hx6 : x.length ≤ 140737488351232) (ih : ∀ p ∈ ps, RightRAt N p) : RightRAt (N + 1) (.mk 5 x s ps mn mx) := by
  intro F cs w hFw h
  obtain ⟨ad, cap, rfl, hlen, hps⟩ := h.open
  have HN := hid (show nodeB 5 x s ps.length mn mx = (decide (2 ≤ ps.length) && (decide (x = []) && (noneB s && (decide (mn = 0) && decide (mx = 0))))) from rfl)
  have HR := hid (rightB_succ N 5 x s ps mn mx)
  obtain ⟨b, hb⟩ : ∃ b : Bool, b = rightB (N + 1) (.mk 5 x s ps mn mx) := ⟨_, rfl⟩
  rw [← hb] at HR
  have HBB := hid hb
  rw [← hb]
  clear hb
  have IH := hid ih
  have HPS := hid hps
  have HFW := hid hFw
  unfold maxLen at hlen
  have HB0 := hid ((Below.refl w.heap.size w).alloc (Nat.le_refl _) (.cells (reC 5 x s (.slice ad ps.length cap) mn mx) 33))
  have hblk : (w.alloc (.cells (reC 5 x s (.slice ad ps.length cap) mn mx) 33)).heap[w.heap.size]? = some (.cells (reC 5 x s (.slice ad ps.length cap) mn mx) 33 (0, 0)) := heap_alloc_new _ _
  have hsz0 : (w.alloc (.cells (reC 5 x s (.slice ad ps.length cap) mn mx) 33)).heap.size = w.heap.size + 1 := by simp
  have HBK := hid hblk
  have e24 := eq24
  clear h ih hps hFw hblk
  go_enter Tryz.func128, Tryz.ntmps128
  go_upto_region 1 with fail
  generalize w.alloc (.cells (reC 5 x s (.slice ad ps.length cap) mn mx) 33) = W0 at *
  go_wp2
  go_loopw [3] (fun v wr => ∃ i : Nat, i ≤ ps.length ∧ v = .int .i64 i ∧ Hid (∀ p, p ∈ ps.take i → rightB N p = true) ∧ Hid (Below (w.heap.size + 1) W0 wr)) (fun v _ => ps.length - (RowKit.intOf v).toNat)
  case atStart => exact ⟨0, Nat.zero_le _, rfl, hid (fun p hp => by simp at hp), hid (Below.refl _ _)⟩
  case round =>
    obtain ⟨i, hi, rfl, HS, HB⟩ := hrel
    have hwr : Below w.heap.size w wr := HB0.out.trans (HB.out.mono (by omega))
    have hbk := (HB.out.block w.heap.size (by omega)).trans HBK.out
    have hsz : w.heap.size + 1 ≤ wr.heap.size := by have := HB.out.size; omega
    obtain ⟨c0, c1, c2, c3, c4, c5, c6, c7, c8⟩ := nine_of hbk
    by_cases hlt : i < ps.length
    · have hgi : (i : Int) < (ps.length : Int) := by omega
      obtain ⟨g, off, rfl, hgF, hparts⟩ := HPS.out (by rintro rfl; simp at hlt)
      obtain ⟨k1, x1, s1, ad1, n1, cap1, mn1, mx1, hr1, hc⟩ := hparts.at (List.getElem?_eq_getElem hlt)
      obtain ⟨a0, a1, a2, a3, a4, a5, a6, a7, a8⟩ := elem9_of (W := wr) (g := g) (o := off + i * 9) fun j v hv => (hwr.cell (p := ⟨g, off + i * 9 + j, none⟩) (HFW.out g hgF)).trans (hc j v hv)
      have hcall := IH.out ps[i] (List.getElem_mem hlt) F _ wr (fun g hg => by have := HFW.out g hg; omega) (hr1.below HFW.out hwr)
      have HTS := hid (take_snoc hlt)
      have HM := hid (List.getElem_mem hlt)
      clear hparts hc hr1 hbk
      by_cases hd : rightB N ps[i] = true
      · rw [hd] at hcall
        have hrelS := hid (show ∀ p, p ∈ ps.take (i + 1) → rightB N p = true from fun p hp => by
          rw [HTS.out] at hp
          rcases List.mem_append.1 hp with hp | hp
          · exact HS.out p hp
          · rw [List.mem_singleton.1 hp]; exact hd)
        clear hd
        go_wp2_with (go_at_call 128; refine hcall.mono ?_; clear hcall; rintro e w3 ⟨rfl, hb3⟩)
        go_roundw
        case rel => exact ⟨i + 1, by omega, by go_num, hrelS, hid (HB.out.trans (hb3.mono (by omega)))⟩
        case measure => simp [RowKit.intOf]; omega
      · rw [Bool.not_eq_true] at hd
        rw [hd] at hcall
        have HD := hid hd
        clear hd
        go_wp2_with (go_at_call 128; refine hcall.mono ?_; clear hcall; rintro e w3 ⟨rfl, hb3⟩)
        go_ret
        exact ⟨bool_eq (by rw [HR.out, (List.all_eq_false.2 ⟨_, HM.out, by rw [HD.out]; simp⟩ : ps.all (rightB N) = false), Bool.and_false]), hwr.trans (hb3.mono hwr.size)⟩
    · obtain rfl : i = ps.length := by omega
      have HT := hid (show b = nodeB 5 x s ps.length mn mx by
        rw [HR.out, (List.all_eq_true.2 fun p hp => HS.out p (by rw [List.take_length]; exact hp) : ps.all (rightB N) = true), Bool.and_true])
      have HBK4 := hid hbk
      clear hbk hlt
      go_wp2
      all_goals
        go_ret
        refine ⟨bool_eq ?_, hwr⟩
        rw [HT.out, HN.out]
        first
          | (simp only [noneB_dec, len_ge2]; simp [*]; done)
          | (simp only [noneB_dec]; simp [*]; done)
          | (simp [*]; done)
          | (by_cases hle : x.length ≤ 256 <;> first | (exfalso; omega) | (simp only [noneB_dec, len_eq0]; simp [*]; done) | (simp [*]; done))
          | (by_cases hn1 : ps.length = 1 <;> first | (exfalso; omega) | (simp [*, noneB_dec, oftB_iff]; done) | (rw [Bool.eq_iff_iff]; simp [*, noneB_dec, oftB_iff]; done) | (rw [Bool.eq_iff_iff]; simp [*, noneB_dec, oftB_iff]; omega) | (simp [*, noneB_dec, oftB_iff]; omega) | (simp [*, noneB_dec, oftB_iff]; intros; omega) | (rw [Bool.eq_iff_iff]; simp [*, noneB_dec, oftB_iff]; constructor <;> (intros; omega)))
set_option maxRecDepth 100000 in
set_option maxHeartbeats 8000000 in
theorem rr_k6 (N : Nat) (x : List B) (s : Se) (ps : List Re) (mn mx : Int) (_hx6 : x.length ≤ 140737488351232) (ih : ∀ p ∈ ps, RightRAt N p) : RightRAt (N + 1) (.mk 6 x s ps mn mx) := by
  intro F cs w hFw h
  obtain ⟨ad, cap, rfl, hlen, hps⟩ := h.open
  have HN := hid (show nodeB 6 x s ps.length mn mx = (decide (2 ≤ ps.length) && (decide (x = []) && (noneB s && (decide (mn = 0) && decide (mx = 0))))) from rfl)
  have HR := hid (rightB_succ N 6 x s ps mn mx)
  obtain ⟨b, hb⟩ : ∃ b : Bool, b = rightB (N + 1) (.mk 6 x s ps mn mx) := ⟨_, rfl⟩
  rw [← hb] at HR
  have HBB := hid hb
  rw [← hb]
  clear hb
  have IH := hid ih
  have HPS := hid hps
  have HFW := hid hFw
  unfold maxLen at hlen
  have HB0 := hid ((Below.refl w.heap.size w).alloc (Nat.le_refl _) (.cells (reC 6 x s (.slice ad ps.length cap) mn mx) 33))
  have hblk : (w.alloc (.cells (reC 6 x s (.slice ad ps.length cap) mn mx) 33)).heap[w.heap.size]? = some (.cells (reC 6 x s (.slice ad ps.length cap) mn mx) 33 (0, 0)) := heap_alloc_new _ _
  have hsz0 : (w.alloc (.cells (reC 6 x s (.slice ad ps.length cap) mn mx) 33)).heap.size = w.heap.size + 1 := by simp
  have HBK := hid hblk
  have e24 := eq24
  clear h ih hps hFw hblk
  go_enter Tryz.func128, Tryz.ntmps128
  go_upto_region 1 with fail
  generalize w.alloc (.cells (reC 6 x s (.slice ad ps.length cap) mn mx) 33) = W0 at *
  go_wp2
  go_loopw [3] (fun v wr => ∃ i : Nat, i ≤ ps.length ∧ v = .int .i64 i ∧ Hid (∀ p, p ∈ ps.take i → rightB N p = true) ∧ Hid (Below (w.heap.size + 1) W0 wr)) (fun v _ => ps.length - (RowKit.intOf v).toNat)
  case atStart => exact ⟨0, Nat.zero_le _, rfl, hid (fun p hp => by simp at hp), hid (Below.refl _ _)⟩
  case round =>
    obtain ⟨i, hi, rfl, HS, HB⟩ := hrel
    have hwr : Below w.heap.size w wr := HB0.out.trans (HB.out.mono (by omega))
    have hbk := (HB.out.block w.heap.size (by omega)).trans HBK.out
    have hsz : w.heap.size + 1 ≤ wr.heap.size := by have := HB.out.size; omega
    obtain ⟨c0, c1, c2, c3, c4, c5, c6, c7, c8⟩ := nine_of hbk
    by_cases hlt : i < ps.length
    · have hgi : (i : Int) < (ps.length : Int) := by omega
      obtain ⟨g, off, rfl, hgF, hparts⟩ := HPS.out (by rintro rfl; simp at hlt)
      obtain ⟨k1, x1, s1, ad1, n1, cap1, mn1, mx1, hr1, hc⟩ := hparts.at (List.getElem?_eq_getElem hlt)
      obtain ⟨a0, a1, a2, a3, a4, a5, a6, a7, a8⟩ := elem9_of (W := wr) (g := g) (o := off + i * 9) fun j v hv => (hwr.cell (p := ⟨g, off + i * 9 + j, none⟩) (HFW.out g hgF)).trans (hc j v hv)
      have hcall := IH.out ps[i] (List.getElem_mem hlt) F _ wr (fun g hg => by have := HFW.out g hg; omega) (hr1.below HFW.out hwr)
      have HTS := hid (take_snoc hlt)
      have HM := hid (List.getElem_mem hlt)
      clear hparts hc hr1 hbk
      by_cases hd : rightB N ps[i] = true
      · rw [hd] at hcall
        have hrelS := hid (show ∀ p, p ∈ ps.take (i + 1) → rightB N p = true from fun p hp => by
          rw [HTS.out] at hp
          rcases List.mem_append.1 hp with hp | hp
          · exact HS.out p hp
          · rw [List.mem_singleton.1 hp]; exact hd)
        clear hd
        go_wp2_with (go_at_call 128; refine hcall.mono ?_; clear hcall; rintro e w3 ⟨rfl, hb3⟩)
        go_roundw
        case rel => exact ⟨i + 1, by omega, by go_num, hrelS, hid (HB.out.trans (hb3.mono (by omega)))⟩
        case measure => simp [RowKit.intOf]; omega
      · rw [Bool.not_eq_true] at hd
        rw [hd] at hcall
        have HD := hid hd
        clear hd
        go_wp2_with (go_at_call 128; refine hcall.mono ?_; clear hcall; rintro e w3 ⟨rfl, hb3⟩)
        go_ret
        exact ⟨bool_eq (by rw [HR.out, (List.all_eq_false.2 ⟨_, HM.out, by rw [HD.out]; simp⟩ : ps.all (rightB N) = false), Bool.and_false]), hwr.trans (hb3.mono hwr.size)⟩
    · obtain rfl : i = ps.length := by omega
      have HT := hid (show b = nodeB 6 x s ps.length mn mx by
        rw [HR.out, (List.all_eq_true.2 fun p hp => HS.out p (by rw [List.take_length]; exact hp) : ps.all (rightB N) = true), Bool.and_true])
      have HBK4 := hid hbk
      clear hbk hlt
      go_wp2
      all_goals
        go_ret
        refine ⟨bool_eq ?_, hwr⟩
        rw [HT.out, HN.out]
        first
          | (simp only [noneB_dec, len_ge2]; simp [*]; done)
          | (simp only [noneB_dec]; simp [*]; done)
          | (simp [*]; done)
          | (by_cases hle : x.length ≤ 256 <;> first | (exfalso; omega) | (simp only [noneB_dec, len_eq0]; simp [*]; done) | (simp [*]; done))
          | (by_cases hn1 : ps.length = 1 <;> first | (exfalso; omega) | (simp [*, noneB_dec, oftB_iff]; done) | (rw [Bool.eq_iff_iff]; simp [*, noneB_dec, oftB_iff]; done) | (rw [Bool.eq_iff_iff]; simp [*, noneB_dec, oftB_iff]; omega) | (simp [*, noneB_dec, oftB_iff]; omega) | (simp [*, noneB_dec, oftB_iff]; intros; omega) | (rw [Bool.eq_iff_iff]; simp [*, noneB_dec, oftB_iff]; constructor <;> (intros; omega)))
set_option maxRecDepth 100000 in
set_option maxHeartbeats 8000000 in
theorem rr_k7 (N : Nat) (x : List B) (s : Se) (ps : List Re) (mn mx : Int) (_hx6 : x.length ≤ 140737488351232) (ih : ∀ p ∈ ps, RightRAt N p) : RightRAt (N + 1) (.mk 7 x s ps mn mx) := by
  intro F cs w hFw h
  obtain ⟨ad, cap, rfl, hlen, hps⟩ := h.open
  have HN := hid (show nodeB 7 x s ps.length mn mx = (decide (ps.length = 1) && (decide (x = []) && (noneB s && (decide (mn = 0) && decide (mx = 0))))) from rfl)
  have HR := hid (rightB_succ N 7 x s ps mn mx)
  obtain ⟨b, hb⟩ : ∃ b : Bool, b = rightB (N + 1) (.mk 7 x s ps mn mx) := ⟨_, rfl⟩
  rw [← hb] at HR
  have HBB := hid hb
  rw [← hb]
  clear hb
  have IH := hid ih
  have HPS := hid hps
  have HFW := hid hFw
  unfold maxLen at hlen
  have HB0 := hid ((Below.refl w.heap.size w).alloc (Nat.le_refl _) (.cells (reC 7 x s (.slice ad ps.length cap) mn mx) 33))
  have hblk : (w.alloc (.cells (reC 7 x s (.slice ad ps.length cap) mn mx) 33)).heap[w.heap.size]? = some (.cells (reC 7 x s (.slice ad ps.length cap) mn mx) 33 (0, 0)) := heap_alloc_new _ _
  have hsz0 : (w.alloc (.cells (reC 7 x s (.slice ad ps.length cap) mn mx) 33)).heap.size = w.heap.size + 1 := by simp
  have HBK := hid hblk
  have e24 := eq24
  clear h ih hps hFw hblk
  go_enter Tryz.func128, Tryz.ntmps128
  go_upto_region 1 with fail
  generalize w.alloc (.cells (reC 7 x s (.slice ad ps.length cap) mn mx) 33) = W0 at *
  go_wp2
  go_loopw [3] (fun v wr => ∃ i : Nat, i ≤ ps.length ∧ v = .int .i64 i ∧ Hid (∀ p, p ∈ ps.take i → rightB N p = true) ∧ Hid (Below (w.heap.size + 1) W0 wr)) (fun v _ => ps.length - (RowKit.intOf v).toNat)
  case atStart => exact ⟨0, Nat.zero_le _, rfl, hid (fun p hp => by simp at hp), hid (Below.refl _ _)⟩
  case round =>
    obtain ⟨i, hi, rfl, HS, HB⟩ := hrel
    have hwr : Below w.heap.size w wr := HB0.out.trans (HB.out.mono (by omega))
    have hbk := (HB.out.block w.heap.size (by omega)).trans HBK.out
    have hsz : w.heap.size + 1 ≤ wr.heap.size := by have := HB.out.size; omega
    obtain ⟨c0, c1, c2, c3, c4, c5, c6, c7, c8⟩ := nine_of hbk
    by_cases hlt : i < ps.length
    · have hgi : (i : Int) < (ps.length : Int) := by omega
      obtain ⟨g, off, rfl, hgF, hparts⟩ := HPS.out (by rintro rfl; simp at hlt)
      obtain ⟨k1, x1, s1, ad1, n1, cap1, mn1, mx1, hr1, hc⟩ := hparts.at (List.getElem?_eq_getElem hlt)
      obtain ⟨a0, a1, a2, a3, a4, a5, a6, a7, a8⟩ := elem9_of (W := wr) (g := g) (o := off + i * 9) fun j v hv => (hwr.cell (p := ⟨g, off + i * 9 + j, none⟩) (HFW.out g hgF)).trans (hc j v hv)
      have hcall := IH.out ps[i] (List.getElem_mem hlt) F _ wr (fun g hg => by have := HFW.out g hg; omega) (hr1.below HFW.out hwr)
      have HTS := hid (take_snoc hlt)
      have HM := hid (List.getElem_mem hlt)
      clear hparts hc hr1 hbk
      by_cases hd : rightB N ps[i] = true
      · rw [hd] at hcall
        have hrelS := hid (show ∀ p, p ∈ ps.take (i + 1) → rightB N p = true from fun p hp => by
          rw [HTS.out] at hp
          rcases List.mem_append.1 hp with hp | hp
          · exact HS.out p hp
          · rw [List.mem_singleton.1 hp]; exact hd)
        clear hd
        go_wp2_with (go_at_call 128; refine hcall.mono ?_; clear hcall; rintro e w3 ⟨rfl, hb3⟩)
        go_roundw
        case rel => exact ⟨i + 1, by omega, by go_num, hrelS, hid (HB.out.trans (hb3.mono (by omega)))⟩
        case measure => simp [RowKit.intOf]; omega
      · rw [Bool.not_eq_true] at hd
        rw [hd] at hcall
        have HD := hid hd
        clear hd
        go_wp2_with (go_at_call 128; refine hcall.mono ?_; clear hcall; rintro e w3 ⟨rfl, hb3⟩)
        go_ret
        exact ⟨bool_eq (by rw [HR.out, (List.all_eq_false.2 ⟨_, HM.out, by rw [HD.out]; simp⟩ : ps.all (rightB N) = false), Bool.and_false]), hwr.trans (hb3.mono hwr.size)⟩
    · obtain rfl : i = ps.length := by omega
      have HT := hid (show b = nodeB 7 x s ps.length mn mx by
        rw [HR.out, (List.all_eq_true.2 fun p hp => HS.out p (by rw [List.take_length]; exact hp) : ps.all (rightB N) = true), Bool.and_true])
      have HBK4 := hid hbk
      clear hbk hlt
      go_wp2
      all_goals
        go_ret
        refine ⟨bool_eq ?_, hwr⟩
        rw [HT.out, HN.out]
        first
          | (simp only [noneB_dec, len_eq1]; simp [*]; done)
          | (simp only [noneB_dec]; simp [*]; done)
          | (simp [*]; done)
          | (by_cases hle : x.length ≤ 256 <;> first | (exfalso; omega) | (simp only [noneB_dec, len_eq0]; simp [*]; done) | (simp [*]; done))
          | (by_cases hn1 : ps.length = 1 <;> first | (exfalso; omega) | (simp [*, noneB_dec, oftB_iff]; done) | (rw [Bool.eq_iff_iff]; simp [*, noneB_dec, oftB_iff]; done) | (rw [Bool.eq_iff_iff]; simp [*, noneB_dec, oftB_iff]; omega) | (simp [*, noneB_dec, oftB_iff]; omega) | (simp [*, noneB_dec, oftB_iff]; intros; omega) | (rw [Bool.eq_iff_iff]; simp [*, noneB_dec, oftB_iff]; constructor <;> (intros; omega)))
set_option maxRecDepth 100000 in
set_option maxHeartbeats 8000000 in
theorem rr_k8 (N : Nat) (x : List B) (s : Se) (ps : List Re) (mn mx : Int) (_hx6 : x.length ≤ 140737488351232) (ih : ∀ p ∈ ps, RightRAt N p) : RightRAt (N + 1) (.mk 8 x s ps mn mx) := by
  intro F cs w hFw h
  obtain ⟨ad, cap, rfl, hlen, hps⟩ := h.open
  have HN := hid (show nodeB 8 x s ps.length mn mx = (decide (ps.length = 1) && (oftB mn mx && (decide (x = []) && noneB s))) from rfl)
  have HR := hid (rightB_succ N 8 x s ps mn mx)
  obtain ⟨b, hb⟩ : ∃ b : Bool, b = rightB (N + 1) (.mk 8 x s ps mn mx) := ⟨_, rfl⟩
  rw [← hb] at HR
  have HBB := hid hb
  rw [← hb]
  clear hb
  have IH := hid ih
  have HPS := hid hps
  have HFW := hid hFw
  unfold maxLen at hlen
  have HB0 := hid ((Below.refl w.heap.size w).alloc (Nat.le_refl _) (.cells (reC 8 x s (.slice ad ps.length cap) mn mx) 33))
  have hblk : (w.alloc (.cells (reC 8 x s (.slice ad ps.length cap) mn mx) 33)).heap[w.heap.size]? = some (.cells (reC 8 x s (.slice ad ps.length cap) mn mx) 33 (0, 0)) := heap_alloc_new _ _
  have hsz0 : (w.alloc (.cells (reC 8 x s (.slice ad ps.length cap) mn mx) 33)).heap.size = w.heap.size + 1 := by simp
  have HBK := hid hblk
  have e24 := eq24
  clear h ih hps hFw hblk
  go_enter Tryz.func128, Tryz.ntmps128
  go_upto_region 1 with fail
  generalize w.alloc (.cells (reC 8 x s (.slice ad ps.length cap) mn mx) 33) = W0 at *
  go_wp2
  go_loopw [3] (fun v wr => ∃ i : Nat, i ≤ ps.length ∧ v = .int .i64 i ∧ Hid (∀ p, p ∈ ps.take i → rightB N p = true) ∧ Hid (Below (w.heap.size + 1) W0 wr)) (fun v _ => ps.length - (RowKit.intOf v).toNat)
  case atStart => exact ⟨0, Nat.zero_le _, rfl, hid (fun p hp => by simp at hp), hid (Below.refl _ _)⟩
  case round =>
    obtain ⟨i, hi, rfl, HS, HB⟩ := hrel
    have hwr : Below w.heap.size w wr := HB0.out.trans (HB.out.mono (by omega))
    have hbk := (HB.out.block w.heap.size (by omega)).trans HBK.out
    have hsz : w.heap.size + 1 ≤ wr.heap.size := by have := HB.out.size; omega
    obtain ⟨c0, c1, c2, c3, c4, c5, c6, c7, c8⟩ := nine_of hbk
    by_cases hlt : i < ps.length
    · have hgi : (i : Int) < (ps.length : Int) := by omega
      obtain ⟨g, off, rfl, hgF, hparts⟩ := HPS.out (by rintro rfl; simp at hlt)
      obtain ⟨k1, x1, s1, ad1, n1, cap1, mn1, mx1, hr1, hc⟩ := hparts.at (List.getElem?_eq_getElem hlt)
      obtain ⟨a0, a1, a2, a3, a4, a5, a6, a7, a8⟩ := elem9_of (W := wr) (g := g) (o := off + i * 9) fun j v hv => (hwr.cell (p := ⟨g, off + i * 9 + j, none⟩) (HFW.out g hgF)).trans (hc j v hv)
      have hcall := IH.out ps[i] (List.getElem_mem hlt) F _ wr (fun g hg => by have := HFW.out g hg; omega) (hr1.below HFW.out hwr)
      have HTS := hid (take_snoc hlt)
      have HM := hid (List.getElem_mem hlt)
      clear hparts hc hr1 hbk
      by_cases hd : rightB N ps[i] = true
      · rw [hd] at hcall
        have hrelS := hid (show ∀ p, p ∈ ps.take (i + 1) → rightB N p = true from fun p hp => by
          rw [HTS.out] at hp
          rcases List.mem_append.1 hp with hp | hp
          · exact HS.out p hp
          · rw [List.mem_singleton.1 hp]; exact hd)
        clear hd
        go_wp2_with (go_at_call 128; refine hcall.mono ?_; clear hcall; rintro e w3 ⟨rfl, hb3⟩)
        go_roundw
        case rel => exact ⟨i + 1, by omega, by go_num, hrelS, hid (HB.out.trans (hb3.mono (by omega)))⟩
        case measure => simp [RowKit.intOf]; omega
      · rw [Bool.not_eq_true] at hd
        rw [hd] at hcall
        have HD := hid hd
        clear hd
        go_wp2_with (go_at_call 128; refine hcall.mono ?_; clear hcall; rintro e w3 ⟨rfl, hb3⟩)
        go_ret
        exact ⟨bool_eq (by rw [HR.out, (List.all_eq_false.2 ⟨_, HM.out, by rw [HD.out]; simp⟩ : ps.all (rightB N) = false), Bool.and_false]), hwr.trans (hb3.mono hwr.size)⟩
    · obtain rfl : i = ps.length := by omega
      have HT := hid (show b = nodeB 8 x s ps.length mn mx by
        rw [HR.out, (List.all_eq_true.2 fun p hp => HS.out p (by rw [List.take_length]; exact hp) : ps.all (rightB N) = true), Bool.and_true])
      have HBK4 := hid hbk
      clear hbk hlt
      go_wp2
      all_goals
        go_ret
        refine ⟨bool_eq ?_, hwr⟩
        rw [HT.out, HN.out]
        first
          | (simp only [noneB_dec]; simp [*]; done)
          | (simp only [noneB_dec]; simp [*]; done)
          | (simp [*]; done)
          | (by_cases hle : x.length ≤ 256 <;> first | (exfalso; omega) | (simp only [noneB_dec]; simp [*]; done) | (simp [*]; done))
          | (by_cases hn1 : ps.length = 1 <;> first | (exfalso; omega) | (simp [*, noneB_dec, oftB_iff]; done) | (rw [Bool.eq_iff_iff]; simp [*, noneB_dec, oftB_iff]; done) | (rw [Bool.eq_iff_iff]; simp [*, noneB_dec, oftB_iff]; omega) | (simp [*, noneB_dec, oftB_iff]; omega) | (simp [*, noneB_dec, oftB_iff]; intros; omega) | (rw [Bool.eq_iff_iff]; simp [*, noneB_dec, oftB_iff]; constructor <;> (intros; omega)))
theorem rightR_any : ∀ (n : Nat) (r : Re), deepB n r = false → TxRe r → RightRAt n r
  | 0, r, h, _ => by simp [deepB] at h
  | n + 1, .mk k x s ps mn mx, h, ht => by
    have hd : ∀ p ∈ ps, deepB n p = false := fun p hp => by
      have := List.any_eq_false.1 (show ps.any (deepB n) = false from h) p hp
      rwa [Bool.not_eq_true] at this
    have ih : ∀ p ∈ ps, RightRAt n p := fun p hp => rightR_any n p (hd p hp) (ht.part hp)
    have hx := ht.text
    by_cases hk : ∀ j : Nat, j < 8 → k ≠ j + 1
    · exact rr_other n hk x s ps mn mx hx ih
    · have hk' : k = 1 ∨ k = 2 ∨ k = 3 ∨ k = 4 ∨ k = 5 ∨ k = 6 ∨ k = 7 ∨ k = 8 := by
        refine Classical.byContradiction fun hn => hk fun j hj e => hn ?_
        omega
      rcases hk' with rfl | rfl | rfl | rfl | rfl | rfl | rfl | rfl
      · exact rr_k1 n x s ps mn mx hx ih
      · exact rr_k2 n x s ps mn mx hx ih
      · exact rr_k3 n x s ps mn mx hx ih
      · exact rr_k4 n x s ps mn mx hx ih
      · exact rr_k5 n x s ps mn mx hx ih
      · exact rr_k6 n x s ps mn mx hx ih
      · exact rr_k7 n x s ps mn mx hx ih
      · exact rr_k8 n x s ps mn mx hx ih
end Go.Proofs.YtfljcfdfgojdoaaGreatDoor.Sh.Rf
