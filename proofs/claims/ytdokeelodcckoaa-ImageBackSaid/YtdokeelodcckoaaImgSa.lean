/-
  Whether two rows of numbers, of texts, of truths are the same.
-/
import Derived.Test.YtdokeelodcckoaaImgAw
import Derived.BigQuiet
namespace Go.Proofs.Ytdokeelodcckoaa.Im
open Go.RowKit Go.Lib

set_option maxRecDepth 100000 in
set_option maxHeartbeats 2000000 in
theorem ints_same {F G : Nat → Prop} {w : World} {v u : Value} {l m : List Int} (h1 : IntsIn F w v l) (h2 : IntsIn G w u m) :
    Calls Try.prog 60 #[v, u] w fun e w' => e = .returned (.bool (decide (l = m))) ∧ ∃ q, w' = w.drewN q := by
  obtain ⟨ad1, cp1, rfl, hm1, hr1⟩ := h1
  obtain ⟨ad2, cp2, rfl, hm2, hr2⟩ := h2
  unfold maxLen at hm1 hm2
  have HR1 := hid hr1
  have HR2 := hid hr2
  clear hr1 hr2
  by_cases hl : l.length = m.length
  · have HL := hid hl
    have hlb : ((l.length : Int) != (m.length : Int)) = false := by simp [hl]
    clear hl
    go_enter Try.func60, Try.ntmps60
    go_wp2_with fail
    clear hlb
    go_loopw [5] (fun v wr => ∃ k q : Nat, k ≤ l.length ∧ v = .int .i64 k ∧ wr = w.drewN q ∧ Hid (l.take k = m.take k)) (fun v _ => l.length - (intOf v).toNat)
    case atStart => exact ⟨0, 0, Nat.zero_le _, rfl, rfl, hid (by simp)⟩
    case round =>
      obtain ⟨k, q, hk, rfl, rfl, htk⟩ := hrel
      by_cases hlt : k < l.length
      · have hlt2 : k < m.length := by have := HL.out; omega
        have hlt2' : (k : Int) < (m.length : Int) := by omega
        obtain ⟨g, off, rfl, hFg, x, hx, rfl⟩ := HR1.out.at' hlt
        obtain ⟨g2, off2, rfl, hFg2, x2, hx2, rfl⟩ := HR2.out.at' hlt2
        by_cases he : l[k] = m[k]
        · have hb : (l[k] != m[k]) = false := by simp [he]
          have HN := hid (show l.take (k + 1) = m.take (k + 1) by rw [take_succ' _ _ hlt, take_succ' _ _ hlt2, htk.out, he])
          clear he
          go_upto_region 6 with fail
          go_quiet (fail)
          go_wp2
          go_roundw
          case rel => exact ⟨k + 1, _, by omega, by go_num, (by first | rfl | exact World.drewN_drewN _ _ _), HN⟩
          case measure => simp [intOf]; omega
        · have hb : (l[k] != m[k]) = true := by simp [he]
          have HN := hid (show decide (l = m) = false from decide_eq_false (fun e => he (by subst e; rfl)))
          clear he
          go_upto_region 6 with fail
          go_quiet (fail)
          go_wp2
          go_ret
          exact ⟨by rw [HN.out] <;> rfl, _, (by first | rfl | exact World.drewN_drewN _ _ _)⟩
      · have HN := hid (show decide (l = m) = true from decide_eq_true (by
          have h := htk.out
          rw [List.take_of_length_le (by omega), List.take_of_length_le (by have := HL.out; omega)] at h
          exact h))
        go_wp2
        go_ret
        exact ⟨by rw [HN.out] <;> rfl, _, rfl⟩
  · have HN := hid (show decide (l = m) = false from decide_eq_false (fun e => hl (by rw [e])))
    have hlb : ((l.length : Int) != (m.length : Int)) = true := by simp; omega
    clear hl
    go_enter Try.func60, Try.ntmps60
    go_wp2
    go_ret
    exact ⟨by rw [HN.out] <;> rfl, 0, rfl⟩

set_option maxRecDepth 100000 in
set_option maxHeartbeats 2000000 in
theorem texts_same {F G : Nat → Prop} {w : World} {v u : Value} {l m : List (List B)} (h1 : StrsIn F w v l) (h2 : StrsIn G w u m) :
    Calls Try.prog 59 #[v, u] w fun e w' => e = .returned (.bool (decide (l = m))) ∧ ∃ q, w' = w.drewN q := by
  obtain ⟨ad1, cp1, rfl, hm1, hr1⟩ := h1
  obtain ⟨ad2, cp2, rfl, hm2, hr2⟩ := h2
  unfold maxLen at hm1 hm2
  have HR1 := hid hr1
  have HR2 := hid hr2
  clear hr1 hr2
  by_cases hl : l.length = m.length
  · have HL := hid hl
    have hlb : ((l.length : Int) != (m.length : Int)) = false := by simp [hl]
    clear hl
    go_enter Try.func59, Try.ntmps59
    go_wp2_with fail
    clear hlb
    go_loopw [5] (fun v wr => ∃ k q : Nat, k ≤ l.length ∧ v = .int .i64 k ∧ wr = w.drewN q ∧ Hid (l.take k = m.take k)) (fun v _ => l.length - (intOf v).toNat)
    case atStart => exact ⟨0, 0, Nat.zero_le _, rfl, rfl, hid (by simp)⟩
    case round =>
      obtain ⟨k, q, hk, rfl, rfl, htk⟩ := hrel
      by_cases hlt : k < l.length
      · have hlt2 : k < m.length := by have := HL.out; omega
        have hlt2' : (k : Int) < (m.length : Int) := by omega
        obtain ⟨g, off, rfl, hFg, x, hx, rfl⟩ := HR1.out.at' hlt
        obtain ⟨g2, off2, rfl, hFg2, x2, hx2, rfl⟩ := HR2.out.at' hlt2
        by_cases he : l[k] = m[k]
        · have HE := hid he
          have HN := hid (show l.take (k + 1) = m.take (k + 1) by rw [take_succ' _ _ hlt, take_succ' _ _ hlt2, htk.out, he])
          clear he
          go_upto_region 6 with fail
          go_quiet (fail)
          rw [beq_iff_eq.2 HE.out]
          go_wp2
          go_roundw
          case rel => exact ⟨k + 1, _, by omega, by go_num, (by first | rfl | exact World.drewN_drewN _ _ _), HN⟩
          case measure => simp [intOf]; omega
        · have HE := hid he
          have HN := hid (show decide (l = m) = false from decide_eq_false (fun e => he (by subst e; rfl)))
          clear he
          go_upto_region 6 with fail
          go_quiet (fail)
          rw [beq_eq_false_iff_ne.2 HE.out]
          go_wp2
          go_ret
          exact ⟨by rw [HN.out] <;> rfl, _, (by first | rfl | exact World.drewN_drewN _ _ _)⟩
      · have HN := hid (show decide (l = m) = true from decide_eq_true (by
          have h := htk.out
          rw [List.take_of_length_le (by omega), List.take_of_length_le (by have := HL.out; omega)] at h
          exact h))
        go_wp2
        go_ret
        exact ⟨by rw [HN.out] <;> rfl, _, rfl⟩
  · have HN := hid (show decide (l = m) = false from decide_eq_false (fun e => hl (by rw [e])))
    have hlb : ((l.length : Int) != (m.length : Int)) = true := by simp; omega
    clear hl
    go_enter Try.func59, Try.ntmps59
    go_wp2
    go_ret
    exact ⟨by rw [HN.out] <;> rfl, 0, rfl⟩

set_option maxRecDepth 100000 in
set_option maxHeartbeats 2000000 in
theorem bools_same {F G : Nat → Prop} {w : World} {v u : Value} {l m : List Bool} (h1 : BoolsIn F w v l) (h2 : BoolsIn G w u m) :
    Calls Try.prog 58 #[v, u] w fun e w' => e = .returned (.bool (decide (l = m))) ∧ ∃ q, w' = w.drewN q := by
  obtain ⟨ad1, cp1, rfl, hm1, hr1⟩ := h1
  obtain ⟨ad2, cp2, rfl, hm2, hr2⟩ := h2
  unfold maxLen at hm1 hm2
  have HR1 := hid hr1
  have HR2 := hid hr2
  clear hr1 hr2
  by_cases hl : l.length = m.length
  · have HL := hid hl
    have hlb : ((l.length : Int) != (m.length : Int)) = false := by simp [hl]
    clear hl
    go_enter Try.func58, Try.ntmps58
    go_wp2_with fail
    clear hlb
    go_loopw [5] (fun v wr => ∃ k q : Nat, k ≤ l.length ∧ v = .int .i64 k ∧ wr = w.drewN q ∧ Hid (l.take k = m.take k)) (fun v _ => l.length - (intOf v).toNat)
    case atStart => exact ⟨0, 0, Nat.zero_le _, rfl, rfl, hid (by simp)⟩
    case round =>
      obtain ⟨k, q, hk, rfl, rfl, htk⟩ := hrel
      by_cases hlt : k < l.length
      · have hlt2 : k < m.length := by have := HL.out; omega
        have hlt2' : (k : Int) < (m.length : Int) := by omega
        obtain ⟨g, off, rfl, hFg, x, hx, rfl⟩ := HR1.out.at' hlt
        obtain ⟨g2, off2, rfl, hFg2, x2, hx2, rfl⟩ := HR2.out.at' hlt2
        by_cases he : l[k] = m[k]
        · have HE := hid he
          have HN := hid (show l.take (k + 1) = m.take (k + 1) by rw [take_succ' _ _ hlt, take_succ' _ _ hlt2, htk.out, he])
          clear he
          go_upto_region 6 with fail
          go_quiet (fail)
          rw [beq_iff_eq.2 HE.out]
          go_wp2
          go_roundw
          case rel => exact ⟨k + 1, _, by omega, by go_num, (by first | rfl | exact World.drewN_drewN _ _ _), HN⟩
          case measure => simp [intOf]; omega
        · have HE := hid he
          have HN := hid (show decide (l = m) = false from decide_eq_false (fun e => he (by subst e; rfl)))
          clear he
          go_upto_region 6 with fail
          go_quiet (fail)
          rw [beq_eq_false_iff_ne.2 HE.out]
          go_wp2
          go_ret
          exact ⟨by rw [HN.out] <;> rfl, _, (by first | rfl | exact World.drewN_drewN _ _ _)⟩
      · have HN := hid (show decide (l = m) = true from decide_eq_true (by
          have h := htk.out
          rw [List.take_of_length_le (by omega), List.take_of_length_le (by have := HL.out; omega)] at h
          exact h))
        go_wp2
        go_ret
        exact ⟨by rw [HN.out] <;> rfl, _, rfl⟩
  · have HN := hid (show decide (l = m) = false from decide_eq_false (fun e => hl (by rw [e])))
    have hlb : ((l.length : Int) != (m.length : Int)) = true := by simp; omega
    clear hl
    go_enter Try.func58, Try.ntmps58
    go_wp2
    go_ret
    exact ⟨by rw [HN.out] <;> rfl, 0, rfl⟩

end Go.Proofs.Ytdokeelodcckoaa.Im
