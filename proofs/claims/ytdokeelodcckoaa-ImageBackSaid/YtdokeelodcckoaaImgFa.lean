/-
  Whether an automaton, a transducer, a rule has few states: these functions answer, and write nothing that was there.
-/
import Derived.Test.YtdokeelodcckoaaImgRf
namespace Go.Proofs.Ytdokeelodcckoaa.Im
open Go.RowKit Go.Lib

def Says (w : World) (e : Ending) (w' : World) : Prop := (∃ b : Bool, e = .returned (.bool b)) ∧ Below w.heap.size w w'

set_option maxRecDepth 100000 in
set_option maxHeartbeats 2000000 in
theorem dfew_any {F : Nat → Prop} {w : World} {a b c : Value} {d : Dfa} (h : DfaIn F w a b c d) (hF : ∀ g, F g → g < w.heap.size) :
    Calls Try.prog 35 #[.agg #[a, b, c]] w (Says w) := by
  have HD := hid h
  obtain ⟨x1, p1, x2, p2, x3, p3, rfl, rfl, rfl⟩ := h.shape
  generalize hW0 : w.alloc (.cells #[.slice x1 d.cls.length p1, .slice x2 d.next.length p2, .slice x3 d.fin.length p3] 46) = W0
  have hDb : W0.heap[w.heap.size]? = some (.cells #[.slice x1 d.cls.length p1, .slice x2 d.next.length p2, .slice x3 d.fin.length p3] 46 (0, 0)) := by rw [← hW0]; exact heap_alloc_new _ _
  have hB0 : Below w.heap.size w W0 := by rw [← hW0]; exact (Below.refl _ _).alloc (Nat.le_refl _) _
  have HW0 := hid hW0
  obtain ⟨q0, q1, q2⟩ := dcells hDb
  obtain ⟨ad2, cp2, e2, hm2, hr2⟩ := h.next.frame (F' := F) (w' := W0) (fun _ h => h) (fun g hg _ => hB0.block g (hF g hg))
  cases e2
  have HR2 := hid hr2
  unfold maxLen at hm2
  clear h hDb hr2 hW0
  go_enter Try.func35, Try.ntmps35
  go_wp2_with fail
  rw [HW0.out]
  go_loop [3] (fun v => ∃ k : Nat, k ≤ d.next.length ∧ v = .int .i64 k) (fun v => d.next.length - (intOf v).toNat)
  case atStart => exact ⟨0, Nat.zero_le _, rfl⟩
  case round =>
    obtain ⟨k, hk, rfl⟩ := hrel
    by_cases h40 : d.next.length ≤ 40
    · have h40' : (d.next.length : Int) ≤ 40 := by omega
      by_cases hlt : k < d.next.length
      · obtain ⟨g, off, rfl, hFg, x, hx, hrow⟩ := HR2.out.at' hlt
        obtain ⟨adr, cpr, rfl, hmr, hrr⟩ := hrow
        clear hrr
        unfold maxLen at hmr
        by_cases h20 : d.next[k].length ≤ 20
        · have h20' : ¬ (20 : Int) < d.next[k].length := by omega
          go_wp2
          go_round
          case rel => exact ⟨k + 1, by omega, by go_num⟩
          case measure => simp [intOf]; omega
        · have h20' : (20 : Int) < d.next[k].length := by omega
          go_wp2
          go_ret
          exact ⟨⟨_, rfl⟩, hB0⟩
      · go_wp2
        all_goals
          go_ret
          exact ⟨⟨_, rfl⟩, hB0⟩
    · have h40' : ¬ (d.next.length : Int) ≤ 40 := by omega
      go_wp2
      all_goals
        go_ret
        exact ⟨⟨_, rfl⟩, hB0⟩

set_option maxRecDepth 100000 in
set_option maxHeartbeats 2000000 in
theorem sfew_any {F : Nat → Prop} {w : World} {f a b c d : Value} {q : Sq} (h : SqIn F w f a b c d q) (hF : ∀ g, F g → g < w.heap.size) :
    Calls Try.prog 36 #[.agg #[f, a, b, c, d]] w (Says w) := by
  obtain ⟨x1, p1, x2, p2, x3, p3, x4, p4, rfl, rfl, rfl, rfl, rfl⟩ := h.shape
  generalize hW0 : w.alloc (.cells #[.string ⟨q.front.toArray⟩, .slice x1 q.next.length p1, .slice x2 q.outs.length p2, .slice x3 q.fin.length p3, .slice x4 q.tail.length p4] 50) = W0
  have hDb : W0.heap[w.heap.size]? = some (.cells #[.string ⟨q.front.toArray⟩, .slice x1 q.next.length p1, .slice x2 q.outs.length p2, .slice x3 q.fin.length p3, .slice x4 q.tail.length p4] 50 (0, 0)) := by rw [← hW0]; exact heap_alloc_new _ _
  have hB0 : Below w.heap.size w W0 := by rw [← hW0]; exact (Below.refl _ _).alloc (Nat.le_refl _) _
  have HW0 := hid hW0
  obtain ⟨q0, q1, q2, q3, q4⟩ := scells hDb
  obtain ⟨ad2, cp2, e2, hm2, hr2⟩ := h.outs.frame (F' := F) (w' := W0) (fun _ h => h) (fun g hg _ => hB0.block g (hF g hg))
  cases e2
  have HR2 := hid hr2
  unfold maxLen at hm2
  clear h hDb hr2 hW0
  go_enter Try.func36, Try.ntmps36
  by_cases h1 : 12 < q.next.length
  · have h1' : (12 : Int) < q.next.length := by omega
    go_wp2_with fail
    rw [HW0.out]
    go_wp2
    go_ret
    exact ⟨⟨_, rfl⟩, hB0⟩
  · have h1' : ¬ (12 : Int) < q.next.length := by omega
    by_cases h2 : 13 < q.outs.length
    · have h2' : (13 : Int) < q.outs.length := by omega
      go_wp2_with fail
      rw [HW0.out]
      go_wp2
      go_ret
      exact ⟨⟨_, rfl⟩, hB0⟩
    · have h2' : ¬ (13 : Int) < q.outs.length := by omega
      by_cases h3 : 5000 < q.front.length
      · have h3' : (5000 : Int) < q.front.length := by omega
        go_wp2_with fail
        rw [HW0.out]
        go_wp2
        go_ret
        exact ⟨⟨_, rfl⟩, hB0⟩
      · have h3' : ¬ (5000 : Int) < q.front.length := by omega
        go_wp2_with fail
        rw [HW0.out]
        go_wp2_with fail
        go_loop [3] (fun v => ∃ k : Nat, k ≤ q.outs.length ∧ v = .int .i64 k) (fun v => q.outs.length - (intOf v).toNat)
        case atStart => exact ⟨0, Nat.zero_le _, rfl⟩
        case round =>
          obtain ⟨k, hk, rfl⟩ := hrel
          by_cases hlt : k < q.outs.length
          · obtain ⟨g, off, rfl, hFg, x, hx, hrow⟩ := HR2.out.at' hlt
            obtain ⟨adr, cpr, rfl, hmr, hrr⟩ := hrow
            have HRR := hid hrr
            clear hrr
            unfold maxLen at hmr
            by_cases h300 : 300 < q.outs[k].length
            · have h300' : (300 : Int) < q.outs[k].length := by omega
              go_wp2
              go_ret
              exact ⟨⟨_, rfl⟩, hB0⟩
            · have h300' : ¬ (300 : Int) < q.outs[k].length := by omega
              go_wp2_with fail
              go_loop [4, 5] (fun u v => ∃ (j : Nat) (m : Int), j ≤ q.outs[k].length ∧ v = .int .i64 j ∧ u = .int .i64 m) (fun u v => q.outs[k].length - (intOf v).toNat)
              case atStart => exact ⟨0, 0, Nat.zero_le _, rfl, rfl⟩
              case round =>
                obtain ⟨j, m, hj, rfl, rfl⟩ := hrel
                by_cases hjl : j < q.outs[k].length
                · obtain ⟨g2, off2, rfl, hFg2, y, hy, rfl⟩ := HRR.out.at' hjl
                  go_wp2
                  go_round
                  case rel => exact ⟨j + 1, _, by omega, by go_num, rfl⟩
                  case measure => simp [intOf]; omega
                · by_cases hm : 20000 < m
                  · go_wp2
                    go_ret
                    exact ⟨⟨_, rfl⟩, hB0⟩
                  · go_wp2
                    go_round
                    case rel => exact ⟨k + 1, by omega, by go_num⟩
                    case measure => simp [intOf]; omega
          · go_wp2
            go_ret
            exact ⟨⟨_, rfl⟩, hB0⟩
end Go.Proofs.Ytdokeelodcckoaa.Im
