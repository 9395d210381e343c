/-
  The references below layer 11: whittleref01.power, Make (just the set that is asked for), whittleref02.Ints.
-/
import Derived.Test.YtfjomnhdmkbkiaaDoorDgP
import Derived.Test.YtfjomnhdmkbkiaaDoorDgO
import Derived.Test.YtfjomnhdmkbkiaaDoorDfH
import Derived.Test.YtfjomnhdmkbkiaaDoorDfE
import Derived.Test.YtfjomnhdmkbkiaaDoorDfJ
import Derived.Test.YtfjomnhdmkbkiaaDoorDfM
import Derived.Deep.RegionWith
namespace Go.Proofs.YtfjomnhdmkbkiaaDoor.Im
open Go.RowKit Go.Lib

theorem arr_heap_set {w : World} {g i : Nat} {cs : Array Value} {t : TypeId} (hg : w.heap[g]? = some (.cells cs t (0, 0))) (v : Value) : ((w.setCell ⟨g, i, none⟩ v).drew).heap[g]? = some (.cells (cs.setIfInBounds i v) t (0, 0)) := heap_setCell_same _ _ _ _ _ _ hg
theorem arr_heap_other {w : World} {g i j : Nat} (h : j ≠ g) (v : Value) : ((w.setCell ⟨g, i, none⟩ v).drew).heap[j]? = w.heap[j]? := heap_setCell_other _ _ _ _ h
set_option maxHeartbeats 400000 in
theorem powerR_any (n : Int) (m : Nat) (h : n = m) (hm : m ≤ 64) (w : World) :
    Calls Tryd.prog 86 #[.int .i64 n] w fun e w' => e = .returned (.int .u64 (pwR m)) ∧ w = w' := by
  subst h
  go_enter Tryd.func86, Tryd.ntmps86
  go_wp2
  go_loop [3, 4] (fun p i => ∃ k : Nat, k ≤ m ∧ p = .int .u64 (pwR k) ∧ i = .int .i64 k) (fun _ i => m - (intOf i).toNat)
  case atStart => exact ⟨0, Nat.zero_le _, rfl, rfl⟩
  case round =>
    obtain ⟨k, hk, rfl, rfl⟩ := hrel
    by_cases hlt : k < m
    · go_wp2
      go_round
      case rel => exact ⟨k + 1, by omega, rfl, by go_num⟩
      case measure => simp [intOf]; omega
    · obtain rfl : k = m := by omega
      go_wp2
      go_ret
      exact ⟨rfl, rfl⟩
theorem tmod_nat (k : Nat) : (k : Int).tmod 64 = ((k % 64 : Nat) : Int) := by rw [Int.tmod_eq_emod_of_nonneg (by omega)]; omega
theorem addS0 {a b c d : Int} {k : Nat} (h : k / 64 = 0) : (Se.cs ⟨a, b, c, d⟩).setIfInBounds 0 (.int .u64 (IntKind.u64.wrap (a + pwR (k % 64)))) = (addS ⟨a, b, c, d⟩ k).cs := by unfold addS; rw [if_pos h]; rfl
theorem addS1 {a b c d : Int} {k : Nat} (h : k / 64 = 1) : (Se.cs ⟨a, b, c, d⟩).setIfInBounds 1 (.int .u64 (IntKind.u64.wrap (b + pwR (k % 64)))) = (addS ⟨a, b, c, d⟩ k).cs := by unfold addS; rw [if_neg (by omega), if_pos h]; rfl
theorem addS2 {a b c d : Int} {k : Nat} (h : k / 64 = 2) : (Se.cs ⟨a, b, c, d⟩).setIfInBounds 2 (.int .u64 (IntKind.u64.wrap (c + pwR (k % 64)))) = (addS ⟨a, b, c, d⟩ k).cs := by unfold addS; rw [if_neg (by omega), if_neg (by omega), if_pos h]; rfl
theorem addS3 {a b c d : Int} {k : Nat} (h : k / 64 = 3) : (Se.cs ⟨a, b, c, d⟩).setIfInBounds 3 (.int .u64 (IntKind.u64.wrap (d + pwR (k % 64)))) = (addS ⟨a, b, c, d⟩ k).cs := by unfold addS; rw [if_neg (by omega), if_neg (by omega), if_neg (by omega)]; rfl
/-- the set of those that are asked for -/
def MadeSe (l : List Bool) (w : World) (e : Ending) (w' : World) : Prop := (∃ s : Se, e = .returned s.v ∧ MakeAt l 256 s) ∧ Below w.heap.size w w'
set_option maxRecDepth 100000 in
set_option maxHeartbeats 4000000 in
theorem makeR_is {F : Nat → Prop} {w : World} {v : Value} {l : List Bool} (hl : BoolsIn F w v l) (h256 : l.length = 256) (hF : ∀ g, F g → g < w.heap.size) :
    Calls Tryd.prog 60 #[v] w (MadeSe l w) := by
  obtain ⟨ad, cp, rfl, _, hr⟩ := hl
  obtain ⟨ga, oa, rfl, hga, hca⟩ := hr (by intro e; rw [e] at h256; simp at h256)
  have hgl := hF ga hga
  have HCA := hid (show ∀ W : World, Below w.heap.size w W → ∀ i (hi : i < l.length), W.cell? ⟨ga, oa + i, none⟩ = some (.bool l[i]) from fun W hW i hi => by
    obtain ⟨_, hc0, rfl⟩ := hca i hi
    exact (cell_heap (hW.block ga hgl)).trans hc0)
  clear hca hr hF
  go_enter Tryd.func60, Tryd.ntmps60
  go_wp2
  go_loopw [4] (fun i wr => ∃ (k : Nat) (t : Se), k ≤ 256 ∧ i = .int .i64 k ∧ Hid (MakeAt l k t) ∧ wr.heap[w.heap.size]? = some (.cells Se.none.cs 65 (0, 0)) ∧ wr.heap[w.heap.size + 1]? = some (.cells t.cs 65 (0, 0)) ∧ Below w.heap.size w wr) (fun i _ => 256 - (intOf i).toNat)
  case atStart => exact ⟨0, Se.none, by omega, rfl, hid (MakeAt.start l), (alloc_old (by simp)).trans (heap_alloc_new _ _), newB _ _ _, ((Below.refl _ _).alloc (Nat.le_refl _) _).alloc (by simp) _⟩
  case round =>
    obtain ⟨k, t, hk, rfl, HMK, hb0, hb1, hbel⟩ := hrel
    have HB0 := hid hb0
    have HB1 := hid hb1
    obtain ⟨ta, tb, tc, td⟩ := t
    have c0 : wr.cell? ⟨w.heap.size + 1, 0, none⟩ = some (.int .u64 ta) := cell_blk hb1 rfl
    have c1 : wr.cell? ⟨w.heap.size + 1, 1, none⟩ = some (.int .u64 tb) := cell_blk hb1 rfl
    have c2 : wr.cell? ⟨w.heap.size + 1, 2, none⟩ = some (.int .u64 tc) := cell_blk hb1 rfl
    have c3 : wr.cell? ⟨w.heap.size + 1, 3, none⟩ = some (.int .u64 td) := cell_blk hb1 rfl
    have f0 := free_box (i := 0) hb1
    have f1 := free_box (i := 1) hb1
    have f2 := free_box (i := 2) hb1
    have f3 := free_box (i := 3) hb1
    by_cases hlt : k < 256
    · have hkl : k < l.length := by omega
      have hkl' : (k : Int) < (l.length : Int) := by omega
      have hcell := HCA.out wr hbel k hkl
      have hgd := hid (show l.getD k false = l[k] by rw [List.getD_eq_getElem?_getD, List.getElem?_eq_getElem hkl]; rfl)
      clear hb0 hb1
      have H256 := hid h256
      clear h256
      cases hb : l[k]
      · rw [hb] at hcell hgd
        have HNX := hid (HMK.out.no hgd.out)
        clear hb
        go_wp2
        go_roundw
        case rel => exact ⟨k + 1, ⟨ta, tb, tc, td⟩, by omega, by go_num, HNX, HB0.out, HB1.out, hbel⟩
        case measure => simp [intOf]; omega
      · rw [hb] at hcell hgd
        have HNX := hid (HMK.out.yes hlt hgd.out)
        clear hb
        have hcase : k / 64 = 0 ∨ k / 64 = 1 ∨ k / 64 = 2 ∨ k / 64 = 3 := by omega
        rcases hcase with hq | hq | hq | hq
        all_goals
          have HQ := hid hq
          have hq' : (k : Int) / 64 = _ := (by omega : _ = ((k / 64 : Nat) : Int)).trans (congrArg _ hq)
          clear hq
          simp only [Int.cast_ofNat_Int] at hq'
          have x0 : IntKind.i64.wrap 0 = 0 := by decide
          have x1 : IntKind.i64.wrap 1 = 1 := by decide
          have x2 : IntKind.i64.wrap 2 = 2 := by decide
          have x3 : IntKind.i64.wrap 3 = 3 := by decide
          go_wp2
          go_region_with ((go_at_call 86; refine (powerR_any _ (k % 64) (tmod_nat k) (by omega) _).mono ?_; rintro e w' ⟨rfl, rfl⟩))
          all_goals go_wp2
          all_goals go_roundw
          all_goals first
            | (case rel => exact ⟨k + 1, _, by omega, by go_num, HNX, (arr_heap_other (by omega) _).trans HB0.out, (arr_heap_set HB1.out _).trans (by first | rw [← addS0 HQ.out] | rw [← addS1 HQ.out] | rw [← addS2 HQ.out] | rw [← addS3 HQ.out]), ((hbel.setCell (by simp) _).drew)⟩)
            | (case measure => simp [intOf]; omega)
    · obtain rfl : k = 256 := by omega
      clear HCA
      have HBX := hid hbel
      have z0 : wr.cell? ⟨w.heap.size, 0, none⟩ = some (.int .u64 0) := cell_blk hb0 rfl
      have z1 : wr.cell? ⟨w.heap.size, 1, none⟩ = some (.int .u64 0) := cell_blk hb0 rfl
      have z2 : wr.cell? ⟨w.heap.size, 2, none⟩ = some (.int .u64 0) := cell_blk hb0 rfl
      have z3 : wr.cell? ⟨w.heap.size, 3, none⟩ = some (.int .u64 0) := cell_blk hb0 rfl
      have g0 := free_box (i := 0) hb0
      have g1 := free_box (i := 1) hb0
      have g2 := free_box (i := 2) hb0
      have g3 := free_box (i := 3) hb0
      clear hb0 hb1
      go_wp2
      exact bodyPost_ret (v := (⟨ta, tb, tc, td⟩ : Se).v) (by simp [results, Tryd.results60, go_sem, z0, z1, z2, z3]) rfl ⟨⟨⟨ta, tb, tc, td⟩, rfl, HMK.out⟩, (((HBX.out.setCell (by simp) _).setCell (by simp) _).setCell (by simp) _).setCell (by simp) _⟩
end Go.Proofs.YtfjomnhdmkbkiaaDoor.Im
