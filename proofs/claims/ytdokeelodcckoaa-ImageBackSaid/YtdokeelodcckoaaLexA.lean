/-
  Contracts of the smallest functions of package lex (digit, letter, IndexByte, plain), without a condition.
-/
import Derived.Test.YtdokeelodcckoaaProg
import Derived.Test.YtdokeelodcckoaaLexM
import Derived.WalkKit
import Derived.WalkSpells
import Derived.WalkLawsBesides
import Derived.Deep.Light
namespace Go.Proofs.Ytdokeelodcckoaa
open Go.RowKit Go.Lib

theorem hid {p : Prop} (h : p) : Hid p := h
theorem ret_eq {a b : Value} (h : a = b) : Ending.returned a = .returned b := by rw [h]
theorem bool_eq {a b : Bool} (h : a = b) : Ending.returned (.bool a) = .returned (.bool b) := by rw [h]

set_option maxHeartbeats 400000 in
theorem digit_any (n : Int) (w : World) :
    Calls Try.prog 98 #[.int .u8 n] w fun e w' => e = .returned (.bool (digitB n)) ∧ w = w' := by
  go_enter Try.func98, Try.ntmps98
  go_wp2
  all_goals go_ret
  all_goals refine ⟨bool_eq ?_, rfl⟩
  all_goals rw [Bool.eq_iff_iff]; simp [digitB]; omega

set_option maxHeartbeats 400000 in
theorem letter_any (n : Int) (w : World) :
    Calls Try.prog 96 #[.int .u8 n] w fun e w' => e = .returned (.bool (letterB n)) ∧ w = w' := by
  go_enter Try.func96, Try.ntmps96
  go_wp2
  all_goals go_ret
  all_goals refine ⟨bool_eq ?_, rfl⟩
  all_goals rw [Bool.eq_iff_iff]; simp [letterB]; omega

theorem run_indexByte (s : ByteArray) (c : Int) (w : World) :
    (callFunc 112 #[.string s, .int .u8 c]).run Try.prog w = .ok (.value (.int .i64 (indexByte s.data.toList c.toNat.toUInt8))) w := by
  rw [run_callFunc_extern Try.func112 (by kernel_rfl) (by kernel_rfl) (by kernel_rfl) (e := Extern.BytealgIndexByte.indexByte) (by kernel_rfl), Lib.run_indexByteString]
  rfl

set_option maxHeartbeats 400000 in
theorem indexByte_any (s : ByteArray) (c : Int) (w : World) :
    Calls Try.prog 109 #[.string s, .int .u8 c] w fun e w' => e = .returned (.int .i64 (indexByte s.data.toList c.toNat.toUInt8)) ∧ w = w' := by
  have hr := fun w => run_indexByte s c w
  go_enter Try.func109, Try.ntmps109
  go_wp2
  go_ret
  exact ⟨rfl, rfl⟩

set_option maxHeartbeats 400000 in
theorem plain_any (c : B) (w : World) :
    Calls Try.prog 107 #[.int .u8 c.toNat] w fun e w' => e = .returned (.bool (plainB c)) ∧ w = w' := by
  go_enter Try.func107, Try.ntmps107
  go_wp2_with (go_at_call 109; refine (indexByte_any _ _ _).mono ?_; rintro e w' ⟨rfl, rfl⟩)
  all_goals go_ret
  all_goals refine ⟨bool_eq ?_, rfl⟩
  · have h1 : 32 ≤ (c.toNat : Int) := by assumption
    have h2 : (c.toNat : Int) ≤ 126 := by assumption
    simp only [plainB, special, decide_eq_true h1, decide_eq_true h2, Bool.true_and]
  · have h2 : ¬ (c.toNat : Int) ≤ 126 := by omega
    simp only [plainB, decide_eq_false h2, Bool.and_false, Bool.false_and]
  · have h2 : ¬ 32 ≤ (c.toNat : Int) := by omega
    simp only [plainB, decide_eq_false h2, Bool.false_and]

theorem u8_cast (c : B) : (UInt8.toNat c : Int).toNat.toUInt8 = c := by simp

set_option maxHeartbeats 400000 in
theorem white_any (s : ByteArray) (k : Nat) (w : World) (hk : k ≤ s.size) (hs : s.size ≤ maxLen) :
    Calls Try.prog 92 #[.string s, .int .i64 k] w fun e w' => e = .returned (.int .i64 (s.size - (white false (sfx s k)).length : Nat)) ∧ w = w' := by
  unfold maxLen at hs
  go_enter Try.func92, Try.ntmps92
  go_wp2
  go_loop [1] (fun i => ∃ j : Nat, j ≤ s.size ∧ i = .int .i64 j ∧ Hid (white false (sfx s j) = white false (sfx s k))) (fun i => s.size - (intOf i).toNat)
  case atStart => exact ⟨k, hk, rfl, rfl⟩
  case round =>
    obtain ⟨j, hj, rfl, H⟩ := hrel
    by_cases hlt : j < s.size
    · have hc := hid (sfx_cons s j hlt)
      go_wp2
      case roundEnd =>
        go_round
        case rel => exact ⟨j + 1, by omega, by go_num, by show _ = _; rw [← H.out, hc.out]; simp [white, *]⟩
        case measure => simp [intOf]; omega
      case roundEnd =>
        go_round
        case rel => exact ⟨j + 1, by omega, by go_num, by show _ = _; rw [← H.out, hc.out]; simp [white, *]⟩
        case measure => simp [intOf]; omega
      case roundEnd =>
        go_round
        case rel => exact ⟨j + 1, by omega, by go_num, by show _ = _; rw [← H.out, hc.out]; simp [white, *]⟩
        case measure => simp [intOf]; omega
      case roundEnd =>
        go_round
        case rel => exact ⟨j + 1, by omega, by go_num, by show _ = _; rw [← H.out, hc.out]; simp [white, *]⟩
        case measure => simp [intOf]; omega
      · have g32 : (s[j].toNat : Int) = 35 := by simpa using ‹((s[j].toNat : Int) == 35) = true›
        go_loop [1] (fun i => ∃ m : Nat, j ≤ m ∧ m ≤ s.size ∧ i = .int .i64 m ∧ Hid (white true (sfx s m) = white false (sfx s k))) (fun i => s.size - (intOf i).toNat)
        case atStart => exact ⟨j, Nat.le_refl _, hj, rfl, by show _ = _; rw [← H.out, hc.out]; simp [white, *]⟩
        case round =>
          obtain ⟨m, hjm, hm, rfl, H2⟩ := hrel
          by_cases hlt2 : m < s.size
          · have hc2 := hid (sfx_cons s m hlt2)
            go_wp2
            · go_round
              case rel => exact ⟨m + 1, by omega, by omega, by go_num, by show _ = _; rw [← H2.out, hc2.out]; simp_all [white]⟩
              case measure => simp [intOf]; omega
            · have e10 : (s[m].toNat : Int) = 10 := by simpa using ‹((s[m].toNat : Int) != 10) = false›
              have hmj : m ≠ j := by rintro rfl; omega
              go_round
              case rel => exact ⟨m, by omega, rfl, by show _ = _; rw [← H2.out, hc2.out]; simp [white, e10]⟩
              case measure => simp [intOf]; omega
          · go_wp2
            go_round
            case rel => exact ⟨m, by omega, rfl, by show _ = _; rw [← H2.out, sfx_nil s m (by omega)]; simp [white]⟩
            case measure => simp [intOf]; omega
      · go_ret
        refine ⟨ret_eq ?_, rfl⟩
        rw [← H.out, hc.out]; simp [white, *]
        rw [sfx_len]; omega
    · go_wp2
      go_ret
      have := sfx_nil s j (by omega)
      have H' := H.out
      rw [this] at H'
      refine ⟨ret_eq ?_, rfl⟩
      rw [← H']; simp [white]; omega
end Go.Proofs.Ytdokeelodcckoaa
