/-
  The reference's right, kind by kind. (Printed by genRr.py.)
-/
import Derived.Test.YtfljcfdfgojdoaaGreatDoorFa34
import Derived.Test.YtfljcfdfgojdoaaGreatDoorFa22
namespace Go.Proofs.YtfljcfdfgojdoaaGreatDoor.Sh.Rf
open Go.RowKit Go.Lib Go.Proofs.YtfljcfdfgojdoaaGreatDoor Go.Proofs.YtfljcfdfgojdoaaGreatDoor.Sh

/-- the reference's right at an expression, in a world -/
def RightRAt (n : Nat) (r : Re) : Prop := ∀ (F : Nat → Prop) (cs : Array Value) (w : World), (∀ g, F g → g < w.heap.size) → ReG F w r cs → Calls Tryz.prog 128 #[.agg cs] w fun e w' => e = .returned (.bool (rightB n r)) ∧ Below w.heap.size w w'
theorem noneB_dec (s : Se) : noneB s = decide (((s.a = 0 ∧ s.b = 0) ∧ s.c = 0) ∧ s.d = 0) := by
  unfold noneB
  rw [Bool.eq_iff_iff]
  simp
theorem len_eq (n : Nat) (c : Nat) : ((n : Int) == (c : Int)) = decide (n = c) := by
  rw [Bool.eq_iff_iff]
  simp
  omega
theorem len_eq0 (n : Nat) : ((n : Int) == 0) = decide (n = 0) := len_eq n 0
theorem len_eq1 (n : Nat) : ((n : Int) == 1) = decide (n = 1) := len_eq n 1
theorem len_ge2 (n : Nat) : decide ((2 : Int) ≤ (n : Int)) = decide (2 ≤ n) := by
  rw [Bool.eq_iff_iff]
  simp only [decide_eq_true_eq]
  omega
set_option maxRecDepth 100000 in
set_option maxHeartbeats 8000000 in
theorem rr_k1 (N : Nat) (x : List B) (s : Se) (ps : List Re) (mn mx : Int) (hx6 : x.length ≤ 140737488351232) (ih : ∀ p ∈ ps, RightRAt N p) : RightRAt (N + 1) (.mk 1 x s ps mn mx) := by
  intro F cs w hFw h
  obtain ⟨ad, cap, rfl, hlen, hps⟩ := h.open
  have HN := hid (show nodeB 1 x s ps.length mn mx = (decide (x.length ≤ 256) && (noneB s && (decide (ps.length = 0) && (decide (mn = 0) && decide (mx = 0))))) from rfl)
  have HR := hid (rightB_succ N 1 x s ps mn mx)
  obtain ⟨b, hb⟩ : ∃ b : Bool, b = rightB (N + 1) (.mk 1 x s ps mn mx) := ⟨_, rfl⟩
  rw [← hb] at HR
  have HBB := hid hb
  rw [← hb]
  clear hb
  have IH := hid ih
  have HPS := hid hps
  have HFW := hid hFw
  unfold maxLen at hlen
  have HB0 := hid ((Below.refl w.heap.size w).alloc (Nat.le_refl _) (.cells (reC 1 x s (.slice ad ps.length cap) mn mx) 33))
  have hblk : (w.alloc (.cells (reC 1 x s (.slice ad ps.length cap) mn mx) 33)).heap[w.heap.size]? = some (.cells (reC 1 x s (.slice ad ps.length cap) mn mx) 33 (0, 0)) := heap_alloc_new _ _
  have hsz0 : (w.alloc (.cells (reC 1 x s (.slice ad ps.length cap) mn mx) 33)).heap.size = w.heap.size + 1 := by simp
  have HBK := hid hblk
  have e24 := eq24
  clear h ih hps hFw hblk
  go_enter Tryz.func128, Tryz.ntmps128
  go_upto_region 1 with fail
  generalize w.alloc (.cells (reC 1 x s (.slice ad ps.length cap) mn mx) 33) = W0 at *
  go_wp2
  go_loopw [3] (fun v wr => ∃ i : Nat, i ≤ ps.length ∧ v = .int .i64 i ∧ Hid (∀ p, p ∈ ps.take i → rightB N p = true) ∧ Hid (Below (w.heap.size + 1) W0 wr)) (fun v _ => ps.length - (RowKit.intOf v).toNat)
  case atStart => exact ⟨0, Nat.zero_le _, rfl, hid (fun p hp => by simp at hp), hid (Below.refl _ _)⟩
  case round =>
    obtain ⟨i, hi, rfl, HS, HB⟩ := hrel
    have hwr : Below w.heap.size w wr := HB0.out.trans (HB.out.mono (by omega))
    have hbk := (HB.out.block w.heap.size (by omega)).trans HBK.out
    have hsz : w.heap.size + 1 ≤ wr.heap.size := by have := HB.out.size; omega
    obtain ⟨c0, c1, c2, c3, c4, c5, c6, c7, c8⟩ := nine_of hbk
    by_cases hlt : i < ps.length
    · have hgi : (i : Int) < (ps.length : Int) := by omega
      obtain ⟨g, off, rfl, hgF, hparts⟩ := HPS.out (by rintro rfl; simp at hlt)
      obtain ⟨k1, x1, s1, ad1, n1, cap1, mn1, mx1, hr1, hc⟩ := hparts.at (List.getElem?_eq_getElem hlt)
      obtain ⟨a0, a1, a2, a3, a4, a5, a6, a7, a8⟩ := elem9_of (W := wr) (g := g) (o := off + i * 9) fun j v hv => (hwr.cell (p := ⟨g, off + i * 9 + j, none⟩) (HFW.out g hgF)).trans (hc j v hv)
      have hcall := IH.out ps[i] (List.getElem_mem hlt) F _ wr (fun g hg => by have := HFW.out g hg; omega) (hr1.below HFW.out hwr)
      have HTS := hid (take_snoc hlt)
      have HM := hid (List.getElem_mem hlt)
      clear hparts hc hr1 hbk
      by_cases hd : rightB N ps[i] = true
      · rw [hd] at hcall
        have hrelS := hid (show ∀ p, p ∈ ps.take (i + 1) → rightB N p = true from fun p hp => by
          rw [HTS.out] at hp
          rcases List.mem_append.1 hp with hp | hp
          · exact HS.out p hp
          · rw [List.mem_singleton.1 hp]; exact hd)
        clear hd
        go_wp2_with (go_at_call 128; refine hcall.mono ?_; clear hcall; rintro e w3 ⟨rfl, hb3⟩)
        go_roundw
        case rel => exact ⟨i + 1, by omega, by go_num, hrelS, hid (HB.out.trans (hb3.mono (by omega)))⟩
        case measure => simp [RowKit.intOf]; omega
      · rw [Bool.not_eq_true] at hd
        rw [hd] at hcall
        have HD := hid hd
        clear hd
        go_wp2_with (go_at_call 128; refine hcall.mono ?_; clear hcall; rintro e w3 ⟨rfl, hb3⟩)
        go_ret
        exact ⟨bool_eq (by rw [HR.out, (List.all_eq_false.2 ⟨_, HM.out, by rw [HD.out]; simp⟩ : ps.all (rightB N) = false), Bool.and_false]), hwr.trans (hb3.mono hwr.size)⟩
    · obtain rfl : i = ps.length := by omega
      have HT := hid (show b = nodeB 1 x s ps.length mn mx by
        rw [HR.out, (List.all_eq_true.2 fun p hp => HS.out p (by rw [List.take_length]; exact hp) : ps.all (rightB N) = true), Bool.and_true])
      have HBK4 := hid hbk
      clear hbk hlt
      go_wp2
      all_goals
        go_ret
        refine ⟨bool_eq ?_, hwr⟩
        rw [HT.out, HN.out]
        first
          | (simp only [noneB_dec, len_eq0]; simp [*]; done)
          | (simp only [noneB_dec]; simp [*]; done)
          | (simp [*]; done)
          | (by_cases hle : x.length ≤ 256 <;> first | (exfalso; omega) | (simp only [noneB_dec, len_eq0]; simp [*]; done) | (simp [*]; done))
          | (by_cases hn1 : ps.length = 1 <;> first | (exfalso; omega) | (simp [*, noneB_dec, oftB_iff]; done) | (rw [Bool.eq_iff_iff]; simp [*, noneB_dec, oftB_iff]; done) | (rw [Bool.eq_iff_iff]; simp [*, noneB_dec, oftB_iff]; omega) | (simp [*, noneB_dec, oftB_iff]; omega) | (simp [*, noneB_dec, oftB_iff]; intros; omega) | (rw [Bool.eq_iff_iff]; simp [*, noneB_dec, oftB_iff]; constructor <;> (intros; omega)))
set_option maxRecDepth 100000 in
set_option maxHeartbeats 8000000 in
theorem rr_k2 (N : Nat) (x : List B) (s : Se) (ps : List Re) (mn mx : Int) (_hx6 : x.length ≤ 140737488351232) (ih : ∀ p ∈ ps, RightRAt N p) : RightRAt (N + 1) (.mk 2 x s ps mn mx) := by
  intro F cs w hFw h
  obtain ⟨ad, cap, rfl, hlen, hps⟩ := h.open
  have HN := hid (show nodeB 2 x s ps.length mn mx = (decide (x = []) && (decide (ps.length = 0) && (decide (mn = 0) && decide (mx = 0)))) from rfl)
  have HR := hid (rightB_succ N 2 x s ps mn mx)
  obtain ⟨b, hb⟩ : ∃ b : Bool, b = rightB (N + 1) (.mk 2 x s ps mn mx) := ⟨_, rfl⟩
  rw [← hb] at HR
  have HBB := hid hb
  rw [← hb]
  clear hb
  have IH := hid ih
  have HPS := hid hps
  have HFW := hid hFw
  unfold maxLen at hlen
  have HB0 := hid ((Below.refl w.heap.size w).alloc (Nat.le_refl _) (.cells (reC 2 x s (.slice ad ps.length cap) mn mx) 33))
  have hblk : (w.alloc (.cells (reC 2 x s (.slice ad ps.length cap) mn mx) 33)).heap[w.heap.size]? = some (.cells (reC 2 x s (.slice ad ps.length cap) mn mx) 33 (0, 0)) := heap_alloc_new _ _
  have hsz0 : (w.alloc (.cells (reC 2 x s (.slice ad ps.length cap) mn mx) 33)).heap.size = w.heap.size + 1 := by simp
  have HBK := hid hblk
  have e24 := eq24
  clear h ih hps hFw hblk
  go_enter Tryz.func128, Tryz.ntmps128
  go_upto_region 1 with fail
  generalize w.alloc (.cells (reC 2 x s (.slice ad ps.length cap) mn mx) 33) = W0 at *
  go_wp2
  go_loopw [3] (fun v wr => ∃ i : Nat, i ≤ ps.length ∧ v = .int .i64 i ∧ Hid (∀ p, p ∈ ps.take i → rightB N p = true) ∧ Hid (Below (w.heap.size + 1) W0 wr)) (fun v _ => ps.length - (RowKit.intOf v).toNat)
  case atStart => exact ⟨0, Nat.zero_le _, rfl, hid (fun p hp => by simp at hp), hid (Below.refl _ _)⟩
  case round =>
    obtain ⟨i, hi, rfl, HS, HB⟩ := hrel
    have hwr : Below w.heap.size w wr := HB0.out.trans (HB.out.mono (by omega))
    have hbk := (HB.out.block w.heap.size (by omega)).trans HBK.out
    have hsz : w.heap.size + 1 ≤ wr.heap.size := by have := HB.out.size; omega
    obtain ⟨c0, c1, c2, c3, c4, c5, c6, c7, c8⟩ := nine_of hbk
    by_cases hlt : i < ps.length
    · have hgi : (i : Int) < (ps.length : Int) := by omega
      obtain ⟨g, off, rfl, hgF, hparts⟩ := HPS.out (by rintro rfl; simp at hlt)
      obtain ⟨k1, x1, s1, ad1, n1, cap1, mn1, mx1, hr1, hc⟩ := hparts.at (List.getElem?_eq_getElem hlt)
      obtain ⟨a0, a1, a2, a3, a4, a5, a6, a7, a8⟩ := elem9_of (W := wr) (g := g) (o := off + i * 9) fun j v hv => (hwr.cell (p := ⟨g, off + i * 9 + j, none⟩) (HFW.out g hgF)).trans (hc j v hv)
      have hcall := IH.out ps[i] (List.getElem_mem hlt) F _ wr (fun g hg => by have := HFW.out g hg; omega) (hr1.below HFW.out hwr)
      have HTS := hid (take_snoc hlt)
      have HM := hid (List.getElem_mem hlt)
      clear hparts hc hr1 hbk
      by_cases hd : rightB N ps[i] = true
      · rw [hd] at hcall
        have hrelS := hid (show ∀ p, p ∈ ps.take (i + 1) → rightB N p = true from fun p hp => by
          rw [HTS.out] at hp
          rcases List.mem_append.1 hp with hp | hp
          · exact HS.out p hp
          · rw [List.mem_singleton.1 hp]; exact hd)
        clear hd
        go_wp2_with (go_at_call 128; refine hcall.mono ?_; clear hcall; rintro e w3 ⟨rfl, hb3⟩)
        go_roundw
        case rel => exact ⟨i + 1, by omega, by go_num, hrelS, hid (HB.out.trans (hb3.mono (by omega)))⟩
        case measure => simp [RowKit.intOf]; omega
      · rw [Bool.not_eq_true] at hd
        rw [hd] at hcall
        have HD := hid hd
        clear hd
        go_wp2_with (go_at_call 128; refine hcall.mono ?_; clear hcall; rintro e w3 ⟨rfl, hb3⟩)
        go_ret
        exact ⟨bool_eq (by rw [HR.out, (List.all_eq_false.2 ⟨_, HM.out, by rw [HD.out]; simp⟩ : ps.all (rightB N) = false), Bool.and_false]), hwr.trans (hb3.mono hwr.size)⟩
    · obtain rfl : i = ps.length := by omega
      have HT := hid (show b = nodeB 2 x s ps.length mn mx by
        rw [HR.out, (List.all_eq_true.2 fun p hp => HS.out p (by rw [List.take_length]; exact hp) : ps.all (rightB N) = true), Bool.and_true])
      have HBK4 := hid hbk
      clear hbk hlt
      go_wp2
      all_goals
        go_ret
        refine ⟨bool_eq ?_, hwr⟩
        rw [HT.out, HN.out]
        first
          | (simp only [len_eq0]; simp [*]; done)
          | (simp only [noneB_dec]; simp [*]; done)
          | (simp [*]; done)
          | (by_cases hle : x.length ≤ 256 <;> first | (exfalso; omega) | (simp only [noneB_dec, len_eq0]; simp [*]; done) | (simp [*]; done))
          | (by_cases hn1 : ps.length = 1 <;> first | (exfalso; omega) | (simp [*, noneB_dec, oftB_iff]; done) | (rw [Bool.eq_iff_iff]; simp [*, noneB_dec, oftB_iff]; done) | (rw [Bool.eq_iff_iff]; simp [*, noneB_dec, oftB_iff]; omega) | (simp [*, noneB_dec, oftB_iff]; omega) | (simp [*, noneB_dec, oftB_iff]; intros; omega) | (rw [Bool.eq_iff_iff]; simp [*, noneB_dec, oftB_iff]; constructor <;> (intros; omega)))
set_option maxRecDepth 100000 in
set_option maxHeartbeats 8000000 in
theorem rr_k3 (N : Nat) (x : List B) (s : Se) (ps : List Re) (mn mx : Int) (hx6 : x.length ≤ 140737488351232) (ih : ∀ p ∈ ps, RightRAt N p) : RightRAt (N + 1) (.mk 3 x s ps mn mx) := by
  intro F cs w hFw h
  obtain ⟨ad, cap, rfl, hlen, hps⟩ := h.open
  have HN := hid (show nodeB 3 x s ps.length mn mx = (nameOk x && (noneB s && (decide (ps.length = 0) && (decide (mn = 0) && decide (mx = 0))))) from rfl)
  have HR := hid (rightB_succ N 3 x s ps mn mx)
  obtain ⟨b, hb⟩ : ∃ b : Bool, b = rightB (N + 1) (.mk 3 x s ps mn mx) := ⟨_, rfl⟩
  rw [← hb] at HR
  have HBB := hid hb
  rw [← hb]
  clear hb
  have IH := hid ih
  have HPS := hid hps
  have HFW := hid hFw
  unfold maxLen at hlen
  have HB0 := hid ((Below.refl w.heap.size w).alloc (Nat.le_refl _) (.cells (reC 3 x s (.slice ad ps.length cap) mn mx) 33))
  have hblk : (w.alloc (.cells (reC 3 x s (.slice ad ps.length cap) mn mx) 33)).heap[w.heap.size]? = some (.cells (reC 3 x s (.slice ad ps.length cap) mn mx) 33 (0, 0)) := heap_alloc_new _ _
  have hsz0 : (w.alloc (.cells (reC 3 x s (.slice ad ps.length cap) mn mx) 33)).heap.size = w.heap.size + 1 := by simp
  have HBK := hid hblk
  have e24 := eq24
  clear h ih hps hFw hblk
  go_enter Tryz.func128, Tryz.ntmps128
  go_upto_region 1 with fail
  generalize w.alloc (.cells (reC 3 x s (.slice ad ps.length cap) mn mx) 33) = W0 at *
  go_wp2
  go_loopw [3] (fun v wr => ∃ i : Nat, i ≤ ps.length ∧ v = .int .i64 i ∧ Hid (∀ p, p ∈ ps.take i → rightB N p = true) ∧ Hid (Below (w.heap.size + 1) W0 wr)) (fun v _ => ps.length - (RowKit.intOf v).toNat)
  case atStart => exact ⟨0, Nat.zero_le _, rfl, hid (fun p hp => by simp at hp), hid (Below.refl _ _)⟩
  case round =>
    obtain ⟨i, hi, rfl, HS, HB⟩ := hrel
    have hwr : Below w.heap.size w wr := HB0.out.trans (HB.out.mono (by omega))
    have hbk := (HB.out.block w.heap.size (by omega)).trans HBK.out
    have hsz : w.heap.size + 1 ≤ wr.heap.size := by have := HB.out.size; omega
    obtain ⟨c0, c1, c2, c3, c4, c5, c6, c7, c8⟩ := nine_of hbk
    by_cases hlt : i < ps.length
    · have hgi : (i : Int) < (ps.length : Int) := by omega
      obtain ⟨g, off, rfl, hgF, hparts⟩ := HPS.out (by rintro rfl; simp at hlt)
      obtain ⟨k1, x1, s1, ad1, n1, cap1, mn1, mx1, hr1, hc⟩ := hparts.at (List.getElem?_eq_getElem hlt)
      obtain ⟨a0, a1, a2, a3, a4, a5, a6, a7, a8⟩ := elem9_of (W := wr) (g := g) (o := off + i * 9) fun j v hv => (hwr.cell (p := ⟨g, off + i * 9 + j, none⟩) (HFW.out g hgF)).trans (hc j v hv)
      have hcall := IH.out ps[i] (List.getElem_mem hlt) F _ wr (fun g hg => by have := HFW.out g hg; omega) (hr1.below HFW.out hwr)
      have HTS := hid (take_snoc hlt)
      have HM := hid (List.getElem_mem hlt)
      clear hparts hc hr1 hbk
      by_cases hd : rightB N ps[i] = true
      · rw [hd] at hcall
        have hrelS := hid (show ∀ p, p ∈ ps.take (i + 1) → rightB N p = true from fun p hp => by
          rw [HTS.out] at hp
          rcases List.mem_append.1 hp with hp | hp
          · exact HS.out p hp
          · rw [List.mem_singleton.1 hp]; exact hd)
        clear hd
        go_wp2_with (go_at_call 128; refine hcall.mono ?_; clear hcall; rintro e w3 ⟨rfl, hb3⟩)
        go_roundw
        case rel => exact ⟨i + 1, by omega, by go_num, hrelS, hid (HB.out.trans (hb3.mono (by omega)))⟩
        case measure => simp [RowKit.intOf]; omega
      · rw [Bool.not_eq_true] at hd
        rw [hd] at hcall
        have HD := hid hd
        clear hd
        go_wp2_with (go_at_call 128; refine hcall.mono ?_; clear hcall; rintro e w3 ⟨rfl, hb3⟩)
        go_ret
        exact ⟨bool_eq (by rw [HR.out, (List.all_eq_false.2 ⟨_, HM.out, by rw [HD.out]; simp⟩ : ps.all (rightB N) = false), Bool.and_false]), hwr.trans (hb3.mono hwr.size)⟩
    · obtain rfl : i = ps.length := by omega
      have HT := hid (show b = nodeB 3 x s ps.length mn mx by
        rw [HR.out, (List.all_eq_true.2 fun p hp => HS.out p (by rw [List.take_length]; exact hp) : ps.all (rightB N) = true), Bool.and_true])
      have HBK4 := hid hbk
      clear hbk hlt
      have HNM := hid (fun W => nameR_any x W hx6)
      go_wp2_with (go_at_call 88; refine (HNM.out _).mono ?_; rintro e w3 ⟨rfl, hb3⟩; have hbk3 := (hb3.block w.heap.size (by omega)).trans HBK4.out; clear c0 c1 c2 c3 c4 c5 c6 c7 c8; obtain ⟨c0, c1, c2, c3, c4, c5, c6, c7, c8⟩ := nine_of hbk3)
      all_goals
        go_ret
        refine ⟨bool_eq ?_, hwr.trans (hb3.mono hwr.size)⟩
        rw [HT.out, HN.out]
        first
          | (simp only [noneB_dec, len_eq0]; simp [*]; done)
          | (simp only [noneB_dec]; simp [*]; done)
          | (simp [*]; done)
          | (by_cases hle : x.length ≤ 256 <;> first | (exfalso; omega) | (simp only [noneB_dec, len_eq0]; simp [*]; done) | (simp [*]; done))
          | (by_cases hn1 : ps.length = 1 <;> first | (exfalso; omega) | (simp [*, noneB_dec, oftB_iff]; done) | (rw [Bool.eq_iff_iff]; simp [*, noneB_dec, oftB_iff]; done) | (rw [Bool.eq_iff_iff]; simp [*, noneB_dec, oftB_iff]; omega) | (simp [*, noneB_dec, oftB_iff]; omega) | (simp [*, noneB_dec, oftB_iff]; intros; omega) | (rw [Bool.eq_iff_iff]; simp [*, noneB_dec, oftB_iff]; constructor <;> (intros; omega)))
set_option maxRecDepth 100000 in
set_option maxHeartbeats 8000000 in
theorem rr_other (N : Nat) {k : Int} (hk : ∀ j : Nat, j < 8 → k ≠ j + 1) (x : List B) (s : Se) (ps : List Re) (mn mx : Int) (_hx6 : x.length ≤ 140737488351232) (ih : ∀ p ∈ ps, RightRAt N p) : RightRAt (N + 1) (.mk k x s ps mn mx) := by
  intro F cs w hFw h
  obtain ⟨ad, cap, rfl, hlen, hps⟩ := h.open
  have k1 : ¬ k = 1 := hk 0 (by decide)
  have k2 : ¬ k = 2 := hk 1 (by decide)
  have k3 : ¬ k = 3 := hk 2 (by decide)
  have k4 : ¬ k = 4 := hk 3 (by decide)
  have k5 : ¬ k = 5 := hk 4 (by decide)
  have k6 : ¬ k = 6 := hk 5 (by decide)
  have k7 : ¬ k = 7 := hk 6 (by decide)
  have k8 : ¬ k = 8 := hk 7 (by decide)
  have HN := hid (show nodeB k x s ps.length mn mx = false by
    unfold nodeB
    rw [if_neg k1, if_neg k2, if_neg k3, if_neg (by omega), if_neg k7, if_neg k8])
  have q1 : (k == 1) = false := by simpa using k1
  have q2 : (k == 2) = false := by simpa using k2
  have q3 : (k == 3) = false := by simpa using k3
  have q4 : (k == 4) = false := by simpa using k4
  have q5 : (k == 5) = false := by simpa using k5
  have q6 : (k == 6) = false := by simpa using k6
  have q7 : (k == 7) = false := by simpa using k7
  have q8 : (k == 8) = false := by simpa using k8
  clear hk k1 k2 k3 k4 k5 k6 k7 k8
  have HR := hid (rightB_succ N k x s ps mn mx)
  obtain ⟨b, hb⟩ : ∃ b : Bool, b = rightB (N + 1) (.mk k x s ps mn mx) := ⟨_, rfl⟩
  rw [← hb] at HR
  have HBB := hid hb
  rw [← hb]
  clear hb
  have IH := hid ih
  have HPS := hid hps
  have HFW := hid hFw
  unfold maxLen at hlen
  have HB0 := hid ((Below.refl w.heap.size w).alloc (Nat.le_refl _) (.cells (reC k x s (.slice ad ps.length cap) mn mx) 33))
  have hblk : (w.alloc (.cells (reC k x s (.slice ad ps.length cap) mn mx) 33)).heap[w.heap.size]? = some (.cells (reC k x s (.slice ad ps.length cap) mn mx) 33 (0, 0)) := heap_alloc_new _ _
  have hsz0 : (w.alloc (.cells (reC k x s (.slice ad ps.length cap) mn mx) 33)).heap.size = w.heap.size + 1 := by simp
  have HBK := hid hblk
  have e24 := eq24
  clear h ih hps hFw hblk
  go_enter Tryz.func128, Tryz.ntmps128
  go_upto_region 1 with fail
  generalize w.alloc (.cells (reC k x s (.slice ad ps.length cap) mn mx) 33) = W0 at *
  go_wp2
  go_loopw [3] (fun v wr => ∃ i : Nat, i ≤ ps.length ∧ v = .int .i64 i ∧ Hid (∀ p, p ∈ ps.take i → rightB N p = true) ∧ Hid (Below (w.heap.size + 1) W0 wr)) (fun v _ => ps.length - (RowKit.intOf v).toNat)
  case atStart => exact ⟨0, Nat.zero_le _, rfl, hid (fun p hp => by simp at hp), hid (Below.refl _ _)⟩
  case round =>
    obtain ⟨i, hi, rfl, HS, HB⟩ := hrel
    have hwr : Below w.heap.size w wr := HB0.out.trans (HB.out.mono (by omega))
    have hbk := (HB.out.block w.heap.size (by omega)).trans HBK.out
    have hsz : w.heap.size + 1 ≤ wr.heap.size := by have := HB.out.size; omega
    obtain ⟨c0, c1, c2, c3, c4, c5, c6, c7, c8⟩ := nine_of hbk
    by_cases hlt : i < ps.length
    · have hgi : (i : Int) < (ps.length : Int) := by omega
      obtain ⟨g, off, rfl, hgF, hparts⟩ := HPS.out (by rintro rfl; simp at hlt)
      obtain ⟨k1, x1, s1, ad1, n1, cap1, mn1, mx1, hr1, hc⟩ := hparts.at (List.getElem?_eq_getElem hlt)
      obtain ⟨a0, a1, a2, a3, a4, a5, a6, a7, a8⟩ := elem9_of (W := wr) (g := g) (o := off + i * 9) fun j v hv => (hwr.cell (p := ⟨g, off + i * 9 + j, none⟩) (HFW.out g hgF)).trans (hc j v hv)
      have hcall := IH.out ps[i] (List.getElem_mem hlt) F _ wr (fun g hg => by have := HFW.out g hg; omega) (hr1.below HFW.out hwr)
      have HTS := hid (take_snoc hlt)
      have HM := hid (List.getElem_mem hlt)
      clear hparts hc hr1 hbk
      by_cases hd : rightB N ps[i] = true
      · rw [hd] at hcall
        have hrelS := hid (show ∀ p, p ∈ ps.take (i + 1) → rightB N p = true from fun p hp => by
          rw [HTS.out] at hp
          rcases List.mem_append.1 hp with hp | hp
          · exact HS.out p hp
          · rw [List.mem_singleton.1 hp]; exact hd)
        clear hd
        go_wp2_with (go_at_call 128; refine hcall.mono ?_; clear hcall; rintro e w3 ⟨rfl, hb3⟩)
        go_roundw
        case rel => exact ⟨i + 1, by omega, by go_num, hrelS, hid (HB.out.trans (hb3.mono (by omega)))⟩
        case measure => simp [RowKit.intOf]; omega
      · rw [Bool.not_eq_true] at hd
        rw [hd] at hcall
        have HD := hid hd
        clear hd
        go_wp2_with (go_at_call 128; refine hcall.mono ?_; clear hcall; rintro e w3 ⟨rfl, hb3⟩)
        go_ret
        exact ⟨bool_eq (by rw [HR.out, (List.all_eq_false.2 ⟨_, HM.out, by rw [HD.out]; simp⟩ : ps.all (rightB N) = false), Bool.and_false]), hwr.trans (hb3.mono hwr.size)⟩
    · obtain rfl : i = ps.length := by omega
      have HT := hid (show b = nodeB k x s ps.length mn mx by
        rw [HR.out, (List.all_eq_true.2 fun p hp => HS.out p (by rw [List.take_length]; exact hp) : ps.all (rightB N) = true), Bool.and_true])
      have HBK4 := hid hbk
      clear hbk hlt
      go_wp2
      all_goals
        go_ret
        exact ⟨bool_eq (by rw [HT.out, HN.out]), hwr⟩
end Go.Proofs.YtfljcfdfgojdoaaGreatDoor.Sh.Rf
