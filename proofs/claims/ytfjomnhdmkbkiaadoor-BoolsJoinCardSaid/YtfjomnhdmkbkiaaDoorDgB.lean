/-
  The contract of dfa.Takes; what whittleref11.Few comes to.
-/
import Derived.Test.YtfjomnhdmkbkiaaDoorDgA
namespace Go.Proofs.YtfjomnhdmkbkiaaDoor.Im
open Go.RowKit Go.Lib Go.Maps Go.Shelf

/-- a truth, whichever -/
def SomeBool (e : Ending) : Prop := ∃ x : Bool, e = .returned (.bool x)
theorem takes_bad {d : Dfa} {t : List B} (h : ¬ dfaOk d = true) : takesM d t = (false, 1) := by unfold takesM; rw [if_neg h]
theorem takes_good {d : Dfa} {t : List B} (h : dfaOk d = true) : takesM d t = (d.fin.getD (runFrom d 0 t).toNat false, 0) := by unfold takesM; rw [if_pos h]
theorem boolpair_eq {p : Bool × Int} {a : Bool} {b : Int} (h : p = (a, b)) : Ending.returned (.tuple #[.bool a, .int .i64 b]) = .returned (.tuple #[.bool p.1, .int .i64 p.2]) := by rw [h]
set_option maxRecDepth 100000 in
set_option maxHeartbeats 4000000 in
theorem takes_any {F : Nat → Prop} {w : World} {a b c : Value} {d : Dfa} (hd : DfaIn F w a b c d) (hF : ∀ g, F g → g < w.heap.size) (t : ByteArray) (ht : t.size ≤ 1000) :
    Calls Tryd.prog 20 #[.agg #[a, b, c], .string t] w fun e w' => e = .returned (.tuple #[.bool (takesM d t.data.toList).1, .int .i64 (takesM d t.data.toList).2]) ∧ Below w.heap.size w w' := by
  generalize hW0 : w.alloc (.cells #[a, b, c] 30) = W0
  have hDb : W0.heap[w.heap.size]? = some (.cells #[a, b, c] 30 (0, 0)) := by rw [← hW0]; exact heap_alloc_new _ _
  have old : ∀ g, F g → g < w.heap.size → W0.heap[g]? = w.heap[g]? := fun g _ hg => by rw [← hW0]; exact alloc_old hg
  have hz0 : W0.heap.size = w.heap.size + 1 := by rw [← hW0]; simp
  have hB0 : Below w.heap.size w W0 := by rw [← hW0]; exact (Below.refl _ _).alloc (Nat.le_refl _) _
  have hch := run_any (hd.frame (F' := F) (fun _ h => h) old) (fun g hg => by have := hF g hg; omega) 0 t ht
  have HD0 := hid hd
  have HFF := hid hF
  obtain ⟨ad1, cp1, rfl, hm1, _⟩ := hd.cls
  obtain ⟨ad2, cp2, rfl, hm2, _⟩ := hd.next
  obtain ⟨ad3, cp3, rfl, hm3, _⟩ := hd.fin
  have HDB := hid hDb
  have HW0 := hid hW0
  clear hDb hW0 old hd hF
  unfold maxLen at hm1 hm2 hm3
  obtain ⟨q0, q1, q2⟩ := dcells HDB.out
  go_enter Tryd.func20, Tryd.ntmps20
  go_wp2_with fail
  rw [HW0.out]
  refine hch.mono ?_
  clear hch
  rintro e w1 ⟨rfl, hb1⟩
  obtain ⟨r0, r1, r2⟩ := dcells ((hb1.block w.heap.size (by omega)).trans HDB.out)
  have hB1 : Below w.heap.size w w1 := hB0.trans (hb1.mono (by omega))
  have HB1 := hid hB1
  clear q0 q1 q2 hB1 hb1 hB0
  by_cases hok : dfaOk d = true
  · have HOK := hid hok
    obtain ⟨m, _, _, hn1, _, hfl, _, _⟩ := dfaOk_parts hok
    rw [run_good (t := t.data.toList) ⟨hok, Int.le_refl 0, by omega⟩]
    obtain ⟨hz0, hz1⟩ := runFrom_in hok t.data.toList (Int.le_refl 0) (by omega)
    have hyes := hid (takes_good (t := t.data.toList) hok)
    generalize runFrom d 0 t.data.toList = zz at *
    obtain ⟨z, rfl⟩ := Int.eq_ofNat_of_zero_le hz0
    have hzl : z < d.fin.length := by omega
    obtain ⟨g, off, rfl, _, x1⟩ := bools_at (HD0.out.fin.frame (F' := F) (w' := w1) (fun _ h => h) (fun g hg _ => HB1.out.block g (HFF.out g hg))) hzl
    have hyes2 := hid (show takesM d t.data.toList = (d.fin[z], 0) by rw [hyes.out, Int.toNat_natCast, List.getD_eq_getElem?_getD, List.getElem?_eq_getElem hzl]; rfl)
    generalize d.fin[z] = fb at *
    clear hok hyes hz0 hz1 hfl
    go_wp2_with fail
    go_ret2
    exact ⟨boolpair_eq hyes2.out, HB1.out⟩
  · rw [run_bad (t := t.data.toList) (fun h => hok h.1)]
    have hno := hid (takes_bad (t := t.data.toList) hok)
    clear hok
    go_wp2
    go_ret2
    exact ⟨boolpair_eq hno.out, HB1.out⟩
set_option maxRecDepth 100000 in
set_option maxHeartbeats 4000000 in
theorem few_some {F : Nat → Prop} {w : World} {a b c : Value} {d : Dfa} (hd : DfaIn F w a b c d) (hF : ∀ g, F g → g < w.heap.size) :
    Calls Tryd.prog 17 #[.agg #[a, b, c]] w fun e w' => SomeBool e ∧ Below w.heap.size w w' := by
  generalize hW0 : w.alloc (.cells #[a, b, c] 30) = W0
  have hDb : W0.heap[w.heap.size]? = some (.cells #[a, b, c] 30 (0, 0)) := by rw [← hW0]; exact heap_alloc_new _ _
  have hz0 : W0.heap.size = w.heap.size + 1 := by rw [← hW0]; simp
  have hB0 : Below w.heap.size w W0 := by rw [← hW0]; exact (Below.refl _ _).alloc (Nat.le_refl _) _
  have HB0 := hid hB0
  have HN := hid (hd.next.frame (F' := F) (w' := W0) (fun _ h => h) (fun g hg _ => HB0.out.block g (hF g hg)))
  obtain ⟨ad1, cp1, rfl, hm1, _⟩ := hd.cls
  obtain ⟨ad2, cp2, rfl, hm2, _⟩ := hd.next
  obtain ⟨ad3, cp3, rfl, hm3, _⟩ := hd.fin
  have HDB := hid hDb
  clear hDb hB0 hd hF
  unfold maxLen at hm1 hm2 hm3
  obtain ⟨q0, q1, q2⟩ := dcells HDB.out
  go_enter Tryd.func17, Tryd.ntmps17
  go_wp2_with fail
  go_loop [3] (fun v => ∃ k : Nat, k ≤ d.next.length ∧ v = .int .i64 k) (fun v => d.next.length - (intOf v).toNat)
  case atStart => exact ⟨0, Nat.zero_le _, rfl⟩
  case round =>
    obtain ⟨k, hk, rfl⟩ := hrel
    by_cases hlt : k < d.next.length
    · by_cases h40 : d.next.length ≤ 40
      · obtain ⟨g, off, v, rfl, _, x1, hrow⟩ := rows_at HN.out hlt
        obtain ⟨adr, cpr, rfl, hmr, _⟩ := hrow
        unfold maxLen at hmr
        by_cases h20 : 20 < d.next[k].length
        · go_wp2_with fail
          go_ret
          exact ⟨⟨_, rfl⟩, HB0.out⟩
        · go_wp2_with fail
          go_round
          case rel => exact ⟨k + 1, by omega, by go_num⟩
          case measure => simp [intOf]; omega
      · go_wp2_with fail
        go_ret
        exact ⟨⟨_, rfl⟩, HB0.out⟩
    · by_cases h40 : d.next.length ≤ 40
      · go_wp2_with fail
        go_ret
        exact ⟨⟨_, rfl⟩, HB0.out⟩
      · go_wp2_with fail
        go_ret
        exact ⟨⟨_, rfl⟩, HB0.out⟩
end Go.Proofs.YtfjomnhdmkbkiaaDoor.Im
