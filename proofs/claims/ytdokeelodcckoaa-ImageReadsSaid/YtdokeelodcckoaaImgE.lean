/-
  The contract of dfa.Check.
-/
import Derived.Test.YtdokeelodcckoaaImgC
import Derived.Test.YtdokeelodcckoaaImgR
namespace Go.Proofs.Ytdokeelodcckoaa.Im
open Go.RowKit Go.Lib

def errOf (b : Bool) : Int := if b then 0 else 1
theorem errOf_true {b : Bool} (h : b = true) : errOf b = 0 := by subst h; rfl
theorem errOf_false {b : Bool} (h : b = false) : errOf b = 1 := by subst h; rfl
theorem err_eq {a b : Int} (h : a = b) : Ending.returned (.int .i64 a) = .returned (.int .i64 b) := by rw [h]
theorem all_not {α : Type} {p : α → Bool} {l : List α} {x : α} (hx : x ∈ l) (h : p x = false) : l.all p = false := by
  rw [List.all_eq_false]; exact ⟨x, hx, by simp [h]⟩
theorem all_snoc {α : Type} {p : α → Bool} {l : List α} {k : Nat} (hk : k < l.length) (h : (l.take k).all p = true) (hx : p l[k] = true) : (l.take (k + 1)).all p = true := by
  rw [take_succ' _ _ hk, List.all_append, h]; simp [hx]
theorem dfaOk_none {d : Dfa} (h : setsOf d.cls = none) : dfaOk d = false := by
  have := setsOf_parts d.cls
  rw [h] at this
  unfold dfaOk
  rw [← this]; rfl
theorem dfaOk_some {d : Dfa} {ss : List Se} (h : setsOf d.cls = some ss) : dfaOk d = (decide (1 ≤ d.next.length) && decide (d.next.length ≤ 1024) && decide (d.fin.length = d.next.length) && d.next.all (rowOk ss.length d.next.length)) := by
  have := setsOf_parts d.cls
  rw [h] at this
  unfold dfaOk
  rw [← this]; rfl

set_option maxRecDepth 100000 in
set_option maxHeartbeats 2000000 in
theorem dfaCheck_any {F : Nat → Prop} {w : World} {a b c : Value} {d : Dfa} (hd : DfaIn F w a b c d) (hF : ∀ g, F g → g < w.heap.size) :
    Calls Try.prog 46 #[.agg #[a, b, c]] w fun e w' => e = .returned (.int .i64 (errOf (dfaOk d))) ∧ Below w.heap.size w w' := by
  obtain ⟨hd1, hd2, hd3⟩ := hd
  generalize hW0 : w.alloc (.cells #[a, b, c] 46) = W0
  have hDb : W0.heap[w.heap.size]? = some (.cells #[a, b, c] 46 (0, 0)) := by rw [← hW0]; exact heap_alloc_new _ _
  have old : ∀ g, F g → g < w.heap.size → W0.heap[g]? = w.heap[g]? := fun g _ hg => by rw [← hW0]; exact alloc_old hg
  have hz0 : W0.heap.size = w.heap.size + 1 := by rw [← hW0]; simp
  have hB0 : Below w.heap.size w W0 := by rw [← hW0]; exact (Below.refl _ _).alloc (Nat.le_refl _) _
  have hcl := hd1.frame (F' := F) (fun _ h => h) old
  have hF0 : ∀ g, F g → g < W0.heap.size := fun g hg => by have := hF g hg; omega
  have H1 := hid hd1
  obtain ⟨ad1, cp1, rfl, hm1, hr1⟩ := hd1
  obtain ⟨ad2, cp2, rfl, hm2, hr2⟩ := hd2
  obtain ⟨ad3, cp3, rfl, hm3, hr3⟩ := hd3
  have HDB := hid hDb
  have HW0 := hid hW0
  have HCL := hid hcl
  have HR2 := hid hr2
  clear hDb hW0 hcl hr1 hr2 hr3 old H1
  unfold maxLen at hm1 hm2 hm3
  obtain ⟨q0, q1, q2⟩ := dcells HDB.out
  go_enter Try.func46, Try.ntmps46
  go_wp2_with fail
  rw [HW0.out]
  refine (sets_any HCL.out hF0).mono ?_
  rintro e w1 ⟨hb1, hp⟩
  obtain ⟨r0, r1, r2⟩ := dcells ((hb1.block w.heap.size (by omega)).trans HDB.out)
  have hB1 : Below w.heap.size w w1 := hB0.trans (hb1.mono (by omega))
  clear q0 q1 q2
  rcases hx : setsOf d.cls with _ | ss
  · have hno := hid (errOf_false (dfaOk_none hx))
    rw [hx] at hp
    obtain rfl := hp
    clear hx
    go_wp2
    go_ret
    exact ⟨err_eq hno.out.symm, hB1⟩
  · have HALL := hid (dfaOk_some hx)
    rw [hx] at hp
    obtain ⟨adp, cpp, rfl, hown⟩ := hp
    have hpl : ss.length ≤ 9223372036854775807 := by
      rcases hown.2 with ⟨_, h⟩ | ⟨g, cap, cur, h, _, _, h1, h2, _⟩
      · omega
      · unfold maxLen at h2; omega
    clear hx hown
    by_cases hn1 : d.next.length < 1
    · have hno := hid (errOf_false (show dfaOk d = false by rw [HALL.out]; simp; omega))
      have hn1' : (d.next.length : Int) < 1 := by omega
      clear hn1
      go_wp2
      go_ret
      exact ⟨err_eq hno.out.symm, hB1⟩
    · by_cases hn2 : 1024 < d.next.length
      · have hno := hid (errOf_false (show dfaOk d = false by rw [HALL.out]; simp; omega))
        have hn1' : ¬ (d.next.length : Int) < 1 := by omega
        have hn2' : (1024 : Int) < d.next.length := by omega
        clear hn1 hn2
        go_wp2
        go_ret
        exact ⟨err_eq hno.out.symm, hB1⟩
      · by_cases hn3 : d.fin.length = d.next.length
        · have hn1' : ¬ (d.next.length : Int) < 1 := by omega
          have hn2' : ¬ (1024 : Int) < d.next.length := by omega
          have hn3' : ((d.fin.length : Int) != (d.next.length : Int)) = false := by simp [hn3]
          have HFIN := hid hn3
          clear hn3
          go_wp2_with fail
          have hok := hid (show dfaOk d = d.next.all (rowOk ss.length d.next.length) by rw [HALL.out, HFIN.out]; simp; omega)
          clear hn3'
          go_loop [39] (fun v => ∃ k : Nat, k ≤ d.next.length ∧ v = .int .i64 k ∧ Hid ((d.next.take k).all (rowOk ss.length d.next.length) = true)) (fun v => d.next.length - (intOf v).toNat)
          case atStart => exact ⟨0, Nat.zero_le _, rfl, hid (by simp)⟩
          case round =>
            obtain ⟨k, hk, rfl, hall⟩ := hrel
            by_cases hlt : k < d.next.length
            · obtain ⟨g, off, rfl, hFg, x, hx, hrow⟩ := (HR2.out.frame (w' := w1) (F' := F) (fun _ h => h) (fun q hq _ => hB1.block q (hF q hq)) (R' := IntsIn F w1) (fun _ _ _ h => IntsIn.frame h (fun _ h => h) (fun q hq _ => hB1.block q (hF q hq)))).at' hlt
              obtain ⟨adr, cpr, rfl, hmr, hrr⟩ := hrow
              unfold maxLen at hmr
              have HRR := hid hrr
              clear hrr
              by_cases hlen : d.next[k].length = ss.length
              · have hlen' : ((d.next[k].length : Int) != (ss.length : Int)) = false := by simp [hlen]
                have HLEN := hid hlen
                clear hlen
                go_wp2_with fail
                clear hlen'
                go_loop [50] (fun v => ∃ j : Nat, j ≤ d.next[k].length ∧ v = .int .i64 j ∧ Hid ((d.next[k].take j).all (fun s => decide (0 ≤ s) && decide (s < d.next.length)) = true)) (fun v => d.next[k].length - (intOf v).toNat)
                case atStart => exact ⟨0, Nat.zero_le _, rfl, hid (by simp)⟩
                case round =>
                  obtain ⟨j, hj, rfl, hin⟩ := hrel
                  by_cases hlj : j < d.next[k].length
                  · obtain ⟨gr, offr, rfl, hFr, x, hxr, rfl⟩ := HRR.out.at' hlj
                    by_cases hs1 : d.next[k][j] < 0
                    · have hno := hid (errOf_false (show dfaOk d = false by rw [hok.out]; exact all_not (List.getElem_mem hlt) (by unfold rowOk; rw [all_not (List.getElem_mem hlj) (by simp; omega)]; simp)))
                      go_wp2
                      go_ret
                      exact ⟨err_eq hno.out.symm, hB1⟩
                    · by_cases hs2 : d.next[k][j] < d.next.length
                      · have hsn := hid (all_snoc hlj hin.out (by simp; omega))
                        go_wp2
                        go_round
                        case rel => exact ⟨j + 1, by omega, by go_num, hsn⟩
                        case measure => simp [intOf]; omega
                      · have hno := hid (errOf_false (show dfaOk d = false by rw [hok.out]; exact all_not (List.getElem_mem hlt) (by unfold rowOk; rw [all_not (List.getElem_mem hlj) (by simp; omega)]; simp)))
                        go_wp2
                        go_ret
                        exact ⟨err_eq hno.out.symm, hB1⟩
                  · obtain rfl : j = d.next[k].length := by omega
                    have hin1 := hin.out
                    rw [List.take_length] at hin1
                    have hsn := hid (all_snoc hlt hall.out (show rowOk ss.length d.next.length d.next[k] = true by unfold rowOk; rw [hin1, HLEN.out]; simp))
                    clear hin1 hin
                    go_wp2
                    go_round
                    case rel => exact ⟨k + 1, by omega, by go_num, hsn⟩
                    case measure => simp [intOf]; omega
              · have hno := hid (errOf_false (show dfaOk d = false by rw [hok.out]; exact all_not (List.getElem_mem hlt) (by unfold rowOk; simp [hlen])))
                have hlen' : ((d.next[k].length : Int) != (ss.length : Int)) = true := by simp; omega
                clear hlen
                go_wp2
                go_ret
                exact ⟨err_eq hno.out.symm, hB1⟩
            · obtain rfl : k = d.next.length := by omega
              have hyes := hid (errOf_true (show dfaOk d = true by rw [hok.out]; have := hall.out; rw [List.take_length] at this; exact this))
              clear hall
              go_wp2
              go_ret
              exact ⟨err_eq hyes.out.symm, hB1⟩
        · have hno := hid (errOf_false (show dfaOk d = false by rw [HALL.out]; simp; omega))
          have hn1' : ¬ (d.next.length : Int) < 1 := by omega
          have hn2' : ¬ (1024 : Int) < d.next.length := by omega
          have hn3' : ((d.fin.length : Int) != (d.next.length : Int)) = true := by simp; omega
          clear hn1 hn2 hn3
          go_wp2
          go_ret
          exact ⟨err_eq hno.out.symm, hB1⟩
end Go.Proofs.Ytdokeelodcckoaa.Im
