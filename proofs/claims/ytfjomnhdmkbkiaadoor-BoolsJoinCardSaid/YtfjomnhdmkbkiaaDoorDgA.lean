/-
  The contract of dfa.Run and dfa.Takes: any automaton, any short text.
-/
import Derived.Test.YtfjomnhdmkbkiaaDoorDfB
import Derived.Test.YtfjomnhdmkbkiaaDoorDfJ
namespace Go.Proofs.YtfjomnhdmkbkiaaDoor.Im
open Go.RowKit Go.Lib Go.Maps Go.Shelf

theorem rows_at {F : Nat → Prop} {w : World} {ad : Option Addr} {n cap : Nat} {l : List (List Int)} (h : RowsIn F w (.slice ad n cap) l) {i : Nat} (hi : i < l.length) : ∃ g off v, ad = some ⟨g, off, none⟩ ∧ F g ∧ w.cell? ⟨g, off + i, none⟩ = some v ∧ IntsIn F w v l[i] := by
  obtain ⟨ad', cap', e, _, h⟩ := h
  cases e
  obtain ⟨g, off, rfl, hg, h⟩ := h (by intro e; subst e; simp at hi)
  obtain ⟨c, hc, hr⟩ := h i hi
  exact ⟨g, off, c, rfl, hg, hc, hr⟩
theorem bools_at {F : Nat → Prop} {w : World} {ad : Option Addr} {n cap : Nat} {l : List Bool} (h : BoolsIn F w (.slice ad n cap) l) {i : Nat} (hi : i < l.length) : ∃ g off, ad = some ⟨g, off, none⟩ ∧ F g ∧ w.cell? ⟨g, off + i, none⟩ = some (.bool l[i]) := by
  obtain ⟨ad', cap', e, _, h⟩ := h
  cases e
  obtain ⟨g, off, rfl, hg, h⟩ := h (by intro e; subst e; simp at hi)
  obtain ⟨c, hc, rfl⟩ := h i hi
  exact ⟨g, off, rfl, hg, hc⟩
theorem run_bad {d : Dfa} {s : Int} {t : List B} (h : ¬ (dfaOk d = true ∧ 0 ≤ s ∧ s < d.next.length)) : runM d s t = (0, 1) := by
  unfold runM; rw [if_neg h]
theorem run_good {d : Dfa} {s : Int} {t : List B} (h : dfaOk d = true ∧ 0 ≤ s ∧ s < d.next.length) : runM d s t = (runFrom d s t, 0) := by
  unfold runM; rw [if_pos h]
theorem run_snoc (d : Dfa) (s : Int) (l : List B) (k : Nat) (hk : k < l.length) : runFrom d s (l.take (k + 1)) = goM d (runFrom d s (l.take k)) l[k] := by
  rw [List.take_succ_eq_append_getElem hk, runFrom_two]; rfl
theorem pair_eq {p : Int × Int} {a b : Int} (h : p = (a, b)) : Ending.returned (.tuple #[.int .i64 a, .int .i64 b]) = .returned (.tuple #[.int .i64 p.1, .int .i64 p.2]) := by rw [h]
/-- what one step reads -/
theorem go_at {F : Nat → Prop} {w : World} {ad1 ad2 : Option Addr} {n1 c1 n2 c2 : Nat} {d : Dfa} (h1 : IntsIn F w (.slice ad1 n1 c1) d.cls) (h2 : RowsIn F w (.slice ad2 n2 c2) d.next) (hd : dfaOk d = true) {z : Nat} (hz : z < d.next.length) (c : B) :
    ∃ (g1 o1 g2 o2 g3 o3 n3 c3 : Nat) (k : Nat) (r : Nat), ad1 = some ⟨g1, o1, none⟩ ∧ c.toNat < n1 ∧ w.cell? ⟨g1, o1 + c.toNat, none⟩ = some (.int .i64 k) ∧ ad2 = some ⟨g2, o2, none⟩ ∧ z < n2 ∧ w.cell? ⟨g2, o2 + z, none⟩ = some (.slice (some ⟨g3, o3, none⟩) n3 c3) ∧ k < n3 ∧ n3 ≤ maxLen ∧ w.cell? ⟨g3, o3 + k, none⟩ = some (.int .i64 r) ∧ goM d z c = r ∧ r < d.next.length := by
  obtain ⟨m, _, hl, _, _, _, hc, hr⟩ := dfaOk_parts hd
  have hcl : c.toNat < d.cls.length := by have := c.toNat_lt; omega
  obtain ⟨g1, o1, e1, _, hx1⟩ := ints_at h1 hcl
  obtain ⟨g2, o2, v, e2, _, hx2, hrow⟩ := rows_at h2 hz
  obtain ⟨hk0, hk1⟩ := hc _ (List.getElem_mem hcl)
  obtain ⟨k, hk⟩ := Int.eq_ofNat_of_zero_le hk0
  obtain ⟨hrl, hrs⟩ := hr _ (List.getElem_mem hz)
  have hkr : k < d.next[z].length := by omega
  have hrow' := hrow
  obtain ⟨ad3, c3, rfl, hm, _⟩ := hrow'
  obtain ⟨g3, o3, rfl, _, hx3⟩ := ints_at hrow hkr
  obtain ⟨hr0, hr1⟩ := hrs _ (List.getElem_mem hkr)
  obtain ⟨r, hre⟩ := Int.eq_ofNat_of_zero_le hr0
  have el1 : n1 = d.cls.length := by obtain ⟨_, _, e, _⟩ := h1; cases e; rfl
  have el2 : n2 = d.next.length := by obtain ⟨_, _, e, _⟩ := h2; cases e; rfl
  refine ⟨g1, o1, g2, o2, g3, o3, d.next[z].length, c3, k, r, e1, by omega, by rw [hx1, hk], e2, by omega, hx2, hkr, hm, by rw [hx3, hre], ?_, by omega⟩
  unfold goM clsAt
  rw [Int.toNat_natCast, List.getD_eq_getElem?_getD, List.getD_eq_getElem?_getD, List.getD_eq_getElem?_getD, List.getElem?_eq_getElem hz, Option.getD_some, List.getElem?_eq_getElem hcl, Option.getD_some, hk]
  simp [List.getElem?_eq_getElem hkr, hre]
set_option maxRecDepth 100000 in
set_option maxHeartbeats 4000000 in
theorem run_any {F : Nat → Prop} {w : World} {a b c : Value} {d : Dfa} (hd : DfaIn F w a b c d) (hF : ∀ g, F g → g < w.heap.size) (s : Int) (t : ByteArray) (ht : t.size ≤ 1000) :
    Calls Tryd.prog 18 #[.agg #[a, b, c], .int .i64 s, .string t] w fun e w' => e = .returned (.tuple #[.int .i64 (runM d s t.data.toList).1, .int .i64 (runM d s t.data.toList).2]) ∧ Below w.heap.size w w' := by
  generalize hW0 : w.alloc (.cells #[a, b, c] 30) = W0
  have hDb : W0.heap[w.heap.size]? = some (.cells #[a, b, c] 30 (0, 0)) := by rw [← hW0]; exact heap_alloc_new _ _
  have old : ∀ g, F g → g < w.heap.size → W0.heap[g]? = w.heap[g]? := fun g _ hg => by rw [← hW0]; exact alloc_old hg
  have hz0 : W0.heap.size = w.heap.size + 1 := by rw [← hW0]; simp
  have hB0 : Below w.heap.size w W0 := by rw [← hW0]; exact (Below.refl _ _).alloc (Nat.le_refl _) _
  have hch := dfaCheck_any (hd.frame (F' := F) (fun _ h => h) old) (fun g hg => by have := hF g hg; omega)
  have HD0 := hid hd
  have HFF := hid hF
  obtain ⟨ad1, cp1, rfl, hm1, _⟩ := hd.cls
  obtain ⟨ad2, cp2, rfl, hm2, _⟩ := hd.next
  obtain ⟨ad3, cp3, rfl, hm3, _⟩ := hd.fin
  have HDB := hid hDb
  have HW0 := hid hW0
  clear hDb hW0 old hd hF
  unfold maxLen at hm1 hm2 hm3
  obtain ⟨q0, q1, q2⟩ := dcells HDB.out
  go_enter Tryd.func18, Tryd.ntmps18
  go_wp2_with fail
  rw [HW0.out]
  refine hch.mono ?_
  clear hch
  rintro e w1 ⟨rfl, hb1⟩
  obtain ⟨r0, r1, r2⟩ := dcells ((hb1.block w.heap.size (by omega)).trans HDB.out)
  have hB1 : Below w.heap.size w w1 := hB0.trans (hb1.mono (by omega))
  have HB1 := hid hB1
  clear q0 q1 q2
  by_cases hok : dfaOk d = true
  · rw [errOf_true hok]
    have HOK := hid hok
    clear hok
    by_cases h0 : s < 0
    · have hno := hid (run_bad (d := d) (s := s) (t := t.data.toList) (fun h => by omega))
      go_wp2
      go_ret2
      exact ⟨pair_eq hno.out, HB1.out⟩
    · by_cases h1 : s < d.next.length
      · have hyes := hid (run_good (d := d) (s := s) (t := t.data.toList) ⟨HOK.out, by omega, h1⟩)
        have hS := hid (show 0 ≤ s ∧ s < d.next.length from ⟨by omega, h1⟩)
        have hcond : ¬ ((d.next.length : Int) ≤ s) := by omega
        have HBOX := hid ((hb1.block w.heap.size (by omega)).trans HDB.out)
        have hzw := HB1.out.size
        have hwl := lt_of_heap HBOX.out
        have hlen : t.size = t.data.toList.length := rfl
        have HLEN := hid hlen
        clear hlen
        go_wp2_with fail
        go_loopw [1, 25] (fun v1 v25 wr => ∃ k : Nat, k ≤ t.size ∧ v25 = .int .i64 k ∧ v1 = .int .i64 (runFrom d s (t.data.toList.take k)) ∧ Below w1.heap.size w1 wr) (fun _ v25 _ => t.size - (intOf v25).toNat)
        case atStart => exact ⟨0, Nat.zero_le _, rfl, rfl, Below.refl _ _⟩
        case round =>
          obtain ⟨k, hk, rfl, rfl, hbr⟩ := hrel
          have HBR := hid hbr
          by_cases hlt : k < t.size
          · have HC1 := hid (HD0.out.cls.frame (F' := F) (w' := wr) (fun _ h => h) (fun g hg hl => (HBR.out.block g (by omega)).trans (HB1.out.block g (HFF.out g hg))))
            have HN1 := hid (HD0.out.next.frame (F' := F) (w' := wr) (fun _ h => h) (fun g hg hl => (HBR.out.block g (by omega)).trans (HB1.out.block g (HFF.out g hg))))
            have hlt' : k < t.data.toList.length := by rw [← HLEN.out]; exact hlt
            have hsn := hid (run_snoc d s t.data.toList k hlt')
            have hch : t.data.toList[k]'hlt' = t[k]'hlt := rfl
            obtain ⟨hz0, hz1⟩ := runFrom_in HOK.out (t.data.toList.take k) hS.out.1 hS.out.2
            generalize hzz : runFrom d s (t.data.toList.take k) = zz at *
            obtain ⟨z, rfl⟩ := Int.eq_ofNat_of_zero_le hz0
            obtain ⟨g1, o1, g2, o2, g3, o3, n3, c3, kk, r, rfl, x1, x2, rfl, x3, x4, x5, x6, x7, x8, x9⟩ := go_at HC1.out HN1.out HOK.out (z := z) (by omega) (t[k]'hlt)
            have hrr := hid (show runFrom d s (t.data.toList.take (k + 1)) = (r : Int) by rw [hsn.out, hch, x8])
            unfold maxLen at x6
            obtain ⟨r0', r1', r2'⟩ := dcells ((HBR.out.block _ hwl).trans HBOX.out)
            clear hsn hch x8 hz0 hz1 hzz hbr r0 r1 r2
            go_wp2_with fail
            go_region
            go_wp2_with fail
            go_roundw
            case rel => exact ⟨k + 1, by omega, by go_num, by rw [hrr.out], HBR.out.drew⟩
            case measure => simp [intOf]; omega
          · obtain rfl : k = t.size := by omega
            have htk := hid (show t.data.toList.take t.size = t.data.toList by rw [HLEN.out, List.take_length])
            rw [htk.out]
            go_wp2
            go_ret2
            exact ⟨pair_eq hyes.out, HB1.out.trans (HBR.out.mono hzw)⟩
      · have hno := hid (run_bad (d := d) (s := s) (t := t.data.toList) (fun h => by omega))
        have hcond : (d.next.length : Int) ≤ s := by omega
        go_wp2
        go_ret2
        exact ⟨pair_eq hno.out, HB1.out⟩
  · rw [errOf_false (by simpa using hok)]
    have hno := hid (run_bad (d := d) (s := s) (t := t.data.toList) (fun h => hok h.1))
    clear hok
    go_wp2
    go_ret2
    exact ⟨pair_eq hno.out, HB1.out⟩
end Go.Proofs.YtfjomnhdmkbkiaaDoor.Im
