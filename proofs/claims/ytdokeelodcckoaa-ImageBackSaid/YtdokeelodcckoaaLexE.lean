/-
  The contract of lex.number, for a text of no more than 2^47 bytes.
-/
import Derived.Test.YtdokeelodcckoaaLexD
namespace Go.Proofs.Ytdokeelodcckoaa
open Go.RowKit Go.Lib

theorem numL_bad {r : List B} {m : Nat} (h : digLen r = m) (hm : 4 < m) : numL r = .error 2 := by
  unfold numL; rw [if_pos (by omega)]
theorem numL_ok {r : List B} {m : Nat} (h : digLen r = m) (hm : ¬ 4 < m) : numL r = .ok (⟨5, [], Se.none, numVal (r.take m), 0⟩, m) := by
  unfold numL; rw [if_neg (by omega), h]
theorem num_lt4 {m : Nat} {x : Int} (h : x < 10 ^ m) (hm : m ≤ 4) : x ≤ 9999 := by
  have hc : m = 0 ∨ m = 1 ∨ m = 2 ∨ m = 3 ∨ m = 4 := by omega
  rcases hc with rfl | rfl | rfl | rfl | rfl <;> simp at h <;> omega

set_option maxHeartbeats 800000 in
theorem number_any (s : ByteArray) (k : Nat) (w : World) (hk : k ≤ s.size) (hs : s.size ≤ maxLen) :
    Calls Try.prog 99 #[.string s, .int .i64 k] w fun e w' => e = .returned (tokV k (numL (sfx s k))) ∧ Below w.heap.size w w' := by
  unfold maxLen at hs
  go_enter Try.func99, Try.ntmps99
  go_wp2
  go_loop [7] (fun i => ∃ m : Nat, k + m ≤ s.size ∧ i = .int .i64 ((k : Int) + m) ∧ Hid (digLen (sfx s k) = m + digLen (sfx s (k + m)))) (fun i => s.size - (intOf i).toNat)
  case atStart => exact ⟨0, hk, by simp, by show _ = _; simp⟩
  case round =>
    obtain ⟨m, hm, rfl, H⟩ := hrel
    by_cases hlt : k + m < s.size
    · have hc := hid (sfx_cons s (k + m) hlt)
      go_wp2_with (first | (go_at_call 98; refine (digit_any _ _).mono ?_; rintro e w' ⟨rfl, rfl⟩))
      case roundEnd =>
        have hl : digitB s[k + m].toNat = true := by assumption
        go_round
        case rel => exact ⟨m + 1, by omega, by go_num, by show _ = _; rw [H.out, hc.out, digLen_yes hl]; simp only [Nat.add_assoc]; omega⟩
        case measure => simp [intOf]; omega
      all_goals have hd : digitB s[k + m].toNat = false := by assumption
      all_goals have hn : digLen (sfx s k) = m := by rw [H.out, hc.out, digLen_no hd]; rfl
      · exact bodyPost_ret (v := tokV k (numL (sfx s k))) (by simp [results, Try.results99, go_sem, tokV_bad (numL_bad hn (by omega))]) rfl ⟨rfl, (Below.refl _ _).alloc (Nat.le_refl _) _⟩
      · have h4 : decide (4 < (k : Int) + m - k) = false := decide_eq_false (by omega)
        simp only [h4, hd]
        go_loop [8, 9] (fun n i => ∃ j : Nat, j ≤ m ∧ i = .int .i64 ((k : Int) + j) ∧ n = .int .i64 (numVal ((sfx s k).take j))) (fun _ i => k + m - (intOf i).toNat)
        case atStart => exact ⟨0, by omega, by simp, rfl⟩
        case round =>
          obtain ⟨j, hj, rfl, rfl⟩ := hrel
          have hnb := numVal_bd s k j (by omega) (by omega)
          have hn0 := hnb.1
          have hn9 := num_lt4 hnb.2 (by omega)
          by_cases hjm : j < m
          · have hkj : k + j < s.size := Nat.lt_of_lt_of_le (Nat.add_lt_add_left hjm k) hm
            have hd0 : 48 ≤ ((s[k + j]'hkj).toNat : Int) := (dig_sfx s k m j hn hjm hkj).1
            have hd9 : ((s[k + j]'hkj).toNat : Int) ≤ 57 := (dig_sfx s k m j hn hjm hkj).2
            have hst := hid (take_sfx s k j hkj)
            have hn' := hid hn
            clear hnb hn
            go_wp2
            go_round
            case rel => exact ⟨j + 1, by omega, by go_num, by rw [hst.out, numVal_snoc]⟩
            case measure => simp [intOf]; omega
          · obtain rfl : j = m := by omega
            have hn' := hid hn
            clear hnb hn
            go_wp2
            exact bodyPost_ret (v := tokV k (numL (sfx s k))) (by simp [results, Try.results99, go_sem, tokV_ok (numL_ok hn'.out (by omega)), Tok.cells, Se.none]) rfl ⟨rfl, (Below.refl _ _).alloc (Nat.le_refl _) _⟩
    · go_wp2
      all_goals have hn : digLen (sfx s k) = m := by rw [H.out, sfx_nil s (k + m) (by omega)]; rfl
      · exact bodyPost_ret (v := tokV k (numL (sfx s k))) (by simp [results, Try.results99, go_sem, tokV_bad (numL_bad hn (by omega))]) rfl ⟨rfl, (Below.refl _ _).alloc (Nat.le_refl _) _⟩
      · have h4 : decide (4 < (k : Int) + m - k) = false := decide_eq_false (by omega)
        simp only [h4]
        go_loop [8, 9] (fun n i => ∃ j : Nat, j ≤ m ∧ i = .int .i64 ((k : Int) + j) ∧ n = .int .i64 (numVal ((sfx s k).take j))) (fun _ i => k + m - (intOf i).toNat)
        case atStart => exact ⟨0, by omega, by simp, rfl⟩
        case round =>
          obtain ⟨j, hj, rfl, rfl⟩ := hrel
          have hnb := numVal_bd s k j (by omega) (by omega)
          have hn0 := hnb.1
          have hn9 := num_lt4 hnb.2 (by omega)
          by_cases hjm : j < m
          · have hkj : k + j < s.size := Nat.lt_of_lt_of_le (Nat.add_lt_add_left hjm k) hm
            have hd0 : 48 ≤ ((s[k + j]'hkj).toNat : Int) := (dig_sfx s k m j hn hjm hkj).1
            have hd9 : ((s[k + j]'hkj).toNat : Int) ≤ 57 := (dig_sfx s k m j hn hjm hkj).2
            have hst := hid (take_sfx s k j hkj)
            have hn' := hid hn
            clear hnb hn
            go_wp2
            go_round
            case rel => exact ⟨j + 1, by omega, by go_num, by rw [hst.out, numVal_snoc]⟩
            case measure => simp [intOf]; omega
          · obtain rfl : j = m := by omega
            have hn' := hid hn
            clear hnb hn
            go_wp2
            exact bodyPost_ret (v := tokV k (numL (sfx s k))) (by simp [results, Try.results99, go_sem, tokV_ok (numL_ok hn'.out (by omega)), Tok.cells, Se.none]) rfl ⟨rfl, (Below.refl _ _).alloc (Nat.le_refl _) _⟩
end Go.Proofs.Ytdokeelodcckoaa
