/-
  The references' Check, Run, Takes of layer 11; two rows, two automatons alike.
-/
import Derived.Test.YtfjomnhdmkbkiaaDoorDgQ
import Derived.Test.YtfjomnhdmkbkiaaDoorDgB
import Derived.Test.YtfjomnhdmkbkiaaDoorDfN
namespace Go.Proofs.YtfjomnhdmkbkiaaDoor.Im
open Go.RowKit Go.Lib Go.Maps Go.Shelf

set_option maxRecDepth 100000 in
set_option maxHeartbeats 4000000 in
theorem checkR_any {F : Nat → Prop} {w : World} {a b c : Value} {d : Dfa} (hd : DfaIn F w a b c d) (hF : ∀ g, F g → g < w.heap.size) :
    Calls Tryd.prog 25 #[.agg #[a, b, c]] w fun e w' => e = .returned (.int .i64 (errOf (dfaOk d))) ∧ Below w.heap.size w w' := by
  generalize hW0 : w.alloc (.cells #[a, b, c] 30) = W0
  have hDb : W0.heap[w.heap.size]? = some (.cells #[a, b, c] 30 (0, 0)) := by rw [← hW0]; exact heap_alloc_new _ _
  have hz0 : W0.heap.size = w.heap.size + 1 := by rw [← hW0]; simp
  have hB0 : Below w.heap.size w W0 := by rw [← hW0]; exact (Below.refl _ _).alloc (Nat.le_refl _) _
  have hch := rightR_any (hd.frame (F' := F) (w' := W0) (fun _ h => h) (fun g hg _ => hB0.block g (hF g hg))) (fun g hg => by have := hF g hg; omega)
  obtain ⟨q0, q1, q2⟩ := dcells hDb
  obtain ⟨ad1, cp1, rfl, hm1, _⟩ := hd.cls
  obtain ⟨ad2, cp2, rfl, hm2, _⟩ := hd.next
  obtain ⟨ad3, cp3, rfl, hm3, _⟩ := hd.fin
  have HW0 := hid hW0
  have HB0 := hid hB0
  have HZ := hid hz0
  clear hDb hW0 hd hF hB0 hz0
  go_enter Tryd.func25, Tryd.ntmps25
  go_wp2_with fail
  rw [HW0.out]
  refine hch.mono ?_
  clear hch
  rintro e w1 ⟨rfl, hb1⟩
  have HB1 := hid (HB0.out.trans (hb1.mono (by rw [HZ.out]; omega)))
  clear hb1 q0 q1 q2
  cases hok : dfaOk d
  · have HOK := hid hok
    clear hok
    go_wp2_with fail
    go_ret
    exact ⟨err_eq (by rw [HOK.out]; rfl), HB1.out⟩
  · have HOK := hid hok
    clear hok
    go_wp2_with fail
    go_ret
    exact ⟨err_eq (by rw [HOK.out]; rfl), HB1.out⟩
set_option maxRecDepth 100000 in
set_option maxHeartbeats 4000000 in
theorem runR_any {F : Nat → Prop} {w : World} {a b c : Value} {d : Dfa} (hd : DfaIn F w a b c d) (hF : ∀ g, F g → g < w.heap.size) (s : Int) (t : ByteArray) (ht : t.size ≤ 1000) :
    Calls Tryd.prog 19 #[.agg #[a, b, c], .int .i64 s, .string t] w fun e w' => e = .returned (.tuple #[.int .i64 (runM d s t.data.toList).1, .int .i64 (runM d s t.data.toList).2]) ∧ Below w.heap.size w w' := by
  generalize hW0 : w.alloc (.cells #[a, b, c] 30) = W0
  have hDb : W0.heap[w.heap.size]? = some (.cells #[a, b, c] 30 (0, 0)) := by rw [← hW0]; exact heap_alloc_new _ _
  have old : ∀ g, F g → g < w.heap.size → W0.heap[g]? = w.heap[g]? := fun g _ hg => by rw [← hW0]; exact alloc_old hg
  have hz0 : W0.heap.size = w.heap.size + 1 := by rw [← hW0]; simp
  have hB0 : Below w.heap.size w W0 := by rw [← hW0]; exact (Below.refl _ _).alloc (Nat.le_refl _) _
  have hch := rightR_any (hd.frame (F' := F) (fun _ h => h) old) (fun g hg => by have := hF g hg; omega)
  have HD0 := hid hd
  have HFF := hid hF
  obtain ⟨ad1, cp1, rfl, hm1, _⟩ := hd.cls
  obtain ⟨ad2, cp2, rfl, hm2, _⟩ := hd.next
  obtain ⟨ad3, cp3, rfl, hm3, _⟩ := hd.fin
  have HDB := hid hDb
  have HW0 := hid hW0
  clear hDb hW0 old hd hF
  unfold maxLen at hm1 hm2 hm3
  obtain ⟨q0, q1, q2⟩ := dcells HDB.out
  go_enter Tryd.func19, Tryd.ntmps19
  go_wp2_with fail
  rw [HW0.out]
  refine hch.mono ?_
  clear hch
  rintro e w1 ⟨rfl, hb1⟩
  obtain ⟨r0, r1, r2⟩ := dcells ((hb1.block w.heap.size (by omega)).trans HDB.out)
  have hB1 : Below w.heap.size w w1 := hB0.trans (hb1.mono (by omega))
  have HB1 := hid hB1
  clear q0 q1 q2
  by_cases hok : dfaOk d = true
  · rw [hok]
    have HOK := hid hok
    clear hok
    by_cases h0 : s < 0
    · have hno := hid (run_bad (d := d) (s := s) (t := t.data.toList) (fun h => by omega))
      go_wp2
      go_ret2
      exact ⟨pair_eq hno.out, HB1.out⟩
    · by_cases h1 : s < d.next.length
      · have hyes := hid (run_good (d := d) (s := s) (t := t.data.toList) ⟨HOK.out, by omega, h1⟩)
        have hS := hid (show 0 ≤ s ∧ s < d.next.length from ⟨by omega, h1⟩)
        have hcond : ¬ ((d.next.length : Int) ≤ s) := by omega
        have HBOX := hid ((hb1.block w.heap.size (by omega)).trans HDB.out)
        have hzw := HB1.out.size
        have hwl := lt_of_heap HBOX.out
        have hlen : t.size = t.data.toList.length := rfl
        have HLEN := hid hlen
        clear hlen
        go_wp2_with fail
        go_loopw [1, 8] (fun v1 v25 wr => ∃ k : Nat, k ≤ t.size ∧ v25 = .int .i64 k ∧ v1 = .int .i64 (runFrom d s (t.data.toList.take k)) ∧ Below w1.heap.size w1 wr) (fun _ v25 _ => t.size - (intOf v25).toNat)
        case atStart => exact ⟨0, Nat.zero_le _, rfl, rfl, Below.refl _ _⟩
        case round =>
          obtain ⟨k, hk, rfl, rfl, hbr⟩ := hrel
          have HBR := hid hbr
          by_cases hlt : k < t.size
          · have HC1 := hid (HD0.out.cls.frame (F' := F) (w' := wr) (fun _ h => h) (fun g hg hl => (HBR.out.block g (by omega)).trans (HB1.out.block g (HFF.out g hg))))
            have HN1 := hid (HD0.out.next.frame (F' := F) (w' := wr) (fun _ h => h) (fun g hg hl => (HBR.out.block g (by omega)).trans (HB1.out.block g (HFF.out g hg))))
            have hlt' : k < t.data.toList.length := by rw [← HLEN.out]; exact hlt
            have hsn := hid (run_snoc d s t.data.toList k hlt')
            have hch : t.data.toList[k]'hlt' = t[k]'hlt := rfl
            obtain ⟨hz0, hz1⟩ := runFrom_in HOK.out (t.data.toList.take k) hS.out.1 hS.out.2
            generalize hzz : runFrom d s (t.data.toList.take k) = zz at *
            obtain ⟨z, rfl⟩ := Int.eq_ofNat_of_zero_le hz0
            obtain ⟨g1, o1, g2, o2, g3, o3, n3, c3, kk, r, rfl, x1, x2, rfl, x3, x4, x5, x6, x7, x8, x9⟩ := go_at HC1.out HN1.out HOK.out (z := z) (by omega) (t[k]'hlt)
            have hrr := hid (show runFrom d s (t.data.toList.take (k + 1)) = (r : Int) by rw [hsn.out, hch, x8])
            unfold maxLen at x6
            obtain ⟨r0', r1', r2'⟩ := dcells ((HBR.out.block _ hwl).trans HBOX.out)
            clear hsn hch x8 hz0 hz1 hzz hbr r0 r1 r2
            go_wp2_with fail
            go_region
            go_wp2_with fail
            go_roundw
            case rel => exact ⟨k + 1, by omega, by go_num, by rw [hrr.out], HBR.out.drew⟩
            case measure => simp [intOf]; omega
          · obtain rfl : k = t.size := by omega
            have htk := hid (show t.data.toList.take t.size = t.data.toList by rw [HLEN.out, List.take_length])
            rw [htk.out]
            go_wp2
            go_ret2
            exact ⟨pair_eq hyes.out, HB1.out.trans (HBR.out.mono hzw)⟩
      · have hno := hid (run_bad (d := d) (s := s) (t := t.data.toList) (fun h => by omega))
        have hcond : (d.next.length : Int) ≤ s := by omega
        go_wp2
        go_ret2
        exact ⟨pair_eq hno.out, HB1.out⟩
  · rw [show dfaOk d = false by simpa using hok]
    have hno := hid (run_bad (d := d) (s := s) (t := t.data.toList) (fun h => hok h.1))
    clear hok
    go_wp2
    go_ret2
    exact ⟨pair_eq hno.out, HB1.out⟩
set_option maxRecDepth 100000 in
set_option maxHeartbeats 4000000 in
theorem takesR_any {F : Nat → Prop} {w : World} {a b c : Value} {d : Dfa} (hd : DfaIn F w a b c d) (hF : ∀ g, F g → g < w.heap.size) (t : ByteArray) (ht : t.size ≤ 1000) :
    Calls Tryd.prog 21 #[.agg #[a, b, c], .string t] w fun e w' => e = .returned (.tuple #[.bool (takesM d t.data.toList).1, .int .i64 (takesM d t.data.toList).2]) ∧ Below w.heap.size w w' := by
  generalize hW0 : w.alloc (.cells #[a, b, c] 30) = W0
  have hDb : W0.heap[w.heap.size]? = some (.cells #[a, b, c] 30 (0, 0)) := by rw [← hW0]; exact heap_alloc_new _ _
  have old : ∀ g, F g → g < w.heap.size → W0.heap[g]? = w.heap[g]? := fun g _ hg => by rw [← hW0]; exact alloc_old hg
  have hz0 : W0.heap.size = w.heap.size + 1 := by rw [← hW0]; simp
  have hB0 : Below w.heap.size w W0 := by rw [← hW0]; exact (Below.refl _ _).alloc (Nat.le_refl _) _
  have hch := runR_any (hd.frame (F' := F) (fun _ h => h) old) (fun g hg => by have := hF g hg; omega) 0 t ht
  have HD0 := hid hd
  have HFF := hid hF
  obtain ⟨ad1, cp1, rfl, hm1, _⟩ := hd.cls
  obtain ⟨ad2, cp2, rfl, hm2, _⟩ := hd.next
  obtain ⟨ad3, cp3, rfl, hm3, _⟩ := hd.fin
  have HDB := hid hDb
  have HW0 := hid hW0
  clear hDb hW0 old hd hF
  unfold maxLen at hm1 hm2 hm3
  obtain ⟨q0, q1, q2⟩ := dcells HDB.out
  go_enter Tryd.func21, Tryd.ntmps21
  go_wp2_with fail
  rw [HW0.out]
  refine hch.mono ?_
  clear hch
  rintro e w1 ⟨rfl, hb1⟩
  obtain ⟨r0, r1, r2⟩ := dcells ((hb1.block w.heap.size (by omega)).trans HDB.out)
  have hB1 : Below w.heap.size w w1 := hB0.trans (hb1.mono (by omega))
  have HB1 := hid hB1
  clear q0 q1 q2 hB1 hb1 hB0
  by_cases hok : dfaOk d = true
  · have HOK := hid hok
    obtain ⟨m, _, _, hn1, _, hfl, _, _⟩ := dfaOk_parts hok
    rw [run_good (t := t.data.toList) ⟨hok, Int.le_refl 0, by omega⟩]
    obtain ⟨hz0, hz1⟩ := runFrom_in hok t.data.toList (Int.le_refl 0) (by omega)
    have hyes := hid (takes_good (t := t.data.toList) hok)
    generalize runFrom d 0 t.data.toList = zz at *
    obtain ⟨z, rfl⟩ := Int.eq_ofNat_of_zero_le hz0
    have hzl : z < d.fin.length := by omega
    obtain ⟨g, off, rfl, _, x1⟩ := bools_at (HD0.out.fin.frame (F' := F) (w' := w1) (fun _ h => h) (fun g hg _ => HB1.out.block g (HFF.out g hg))) hzl
    have hyes2 := hid (show takesM d t.data.toList = (d.fin[z], 0) by rw [hyes.out, Int.toNat_natCast, List.getD_eq_getElem?_getD, List.getElem?_eq_getElem hzl]; rfl)
    generalize d.fin[z] = fb at *
    clear hok hyes hz0 hz1 hfl
    go_wp2_with fail
    go_ret2
    exact ⟨boolpair_eq hyes2.out, HB1.out⟩
  · rw [run_bad (t := t.data.toList) (fun h => hok h.1)]
    have hno := hid (takes_bad (t := t.data.toList) hok)
    clear hok
    go_wp2
    go_ret2
    exact ⟨boolpair_eq hno.out, HB1.out⟩
set_option maxRecDepth 100000 in
set_option maxHeartbeats 4000000 in
/-- two rows of the same numbers are alike -/
theorem ints_yes {F G : Nat → Prop} {w : World} {v v' : Value} {l : List Int} (hl : IntsIn F w v l) (hl' : IntsIn G w v' l) (hF : ∀ g, F g → g < w.heap.size) (hG : ∀ g, G g → g < w.heap.size) :
    Calls Tryd.prog 53 #[v, v'] w fun e w' => e = .returned (.bool true) ∧ Below w.heap.size w w' := by
  have HL := hid hl
  have HL' := hid hl'
  have HF := hid hF
  have HG := hid hG
  obtain ⟨ad, cp, rfl, hm, _⟩ := hl
  obtain ⟨ad', cp', rfl, hm', _⟩ := hl'
  unfold maxLen at hm hm'
  clear hF hG
  go_enter Tryd.func53, Tryd.ntmps53
  go_wp2_with fail
  go_loopw [5] (fun i wr => ∃ k : Nat, k ≤ l.length ∧ i = .int .i64 k ∧ Below w.heap.size w wr) (fun i _ => l.length - (intOf i).toNat)
  case atStart => exact ⟨0, Nat.zero_le _, rfl, Below.refl _ _⟩
  case round =>
    obtain ⟨k, hk, rfl, hb⟩ := hrel
    have HB := hid hb
    clear hb
    by_cases hlt : k < l.length
    · obtain ⟨g, off, rfl, hg, x1⟩ := ints_at (HL.out.frame (F' := F) (w' := wr) (fun _ h => h) (fun g hg _ => HB.out.block g (HF.out g hg))) hlt
      obtain ⟨g', off', rfl, hg', x2⟩ := ints_at (HL'.out.frame (F' := G) (w' := wr) (fun _ h => h) (fun g hg _ => HB.out.block g (HG.out g hg))) hlt
      generalize l[k] = z at *
      go_wp2_with fail
      go_region
      all_goals go_wp2_with fail
      all_goals go_roundw
      all_goals first
        | (case rel => exact ⟨k + 1, by omega, by go_num, HB.out.drew⟩)
        | (case measure => simp [intOf]; omega)
    · obtain rfl : k = l.length := by omega
      go_wp2_with fail
      go_ret
      exact ⟨rfl, HB.out⟩
end Go.Proofs.YtfjomnhdmkbkiaaDoor.Im
