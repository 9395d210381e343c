/-
  ParseDeep returns true at every two numbers: the walk.
-/
import Derived.Test.YtcedjjlflahpcaaDlw
import Derived.Test.YtcedjjlflahpcaaAwl
/- ParseDeep returns true at every two numbers: the walk. -/
namespace Go.Proofs.Ytcedjjlflahpcaa
open Go.RowKit Go.Lib

theorem app_one {s : ByteArray} {c : B} {n : Nat} {l : List B} (h : s.data.toList = l ++ List.replicate n c) : (s ++ ⟨#[c]⟩).data.toList = l ++ List.replicate (n + 1) c := by
  rw [ByteArray.data_append, Array.toList_append, h, List.append_assoc, ← List.replicate_succ']
theorem app_set {s : ByteArray} {l : List B} (h : s.data.toList = l) : (s ++ ⟨#[91, 97, 93]⟩).data.toList = l ++ [91, 97, 93] := by
  rw [ByteArray.data_append, Array.toList_append, h]
theorem size_of_list {s : ByteArray} {l : List B} (h : s.data.toList = l) : s.size = l.length := by rw [← h]; rfl
theorem deep_of {s : ByteArray} {b n : Nat} (h : s.data.toList = (((List.replicate b 40 ++ List.replicate n 33) ++ [91, 97, 93]) ++ List.replicate b 41)) : s = deepS b n := by
  apply ByteArray.ext
  apply Array.ext'
  rw [h]
  simp [deepS, deepT]

set_option maxRecDepth 100000 in
set_option maxHeartbeats 2000000 in
theorem parseDeep_far (a b : Int) (w : World) (h : a < 0 ∨ 100 < a ∨ b < 0 ∨ 100 < b) :
    Calls Try.prog 4 #[.int .i64 a, .int .i64 b] w fun e w' => e = .returned (.bool true) ∧ Below w.heap.size w w' := by
  by_cases h1 : a < 0
  · go_enter Try.func4, Try.ntmps4
    go_wp2
    go_ret
    exact ⟨rfl, Below.refl _ _⟩
  · by_cases h2 : 100 < a
    · go_enter Try.func4, Try.ntmps4
      go_wp2
      go_ret
      exact ⟨rfl, Below.refl _ _⟩
    · by_cases h3 : b < 0
      · go_enter Try.func4, Try.ntmps4
        go_wp2
        go_ret
        exact ⟨rfl, Below.refl _ _⟩
      · have h4 : 100 < b := by omega
        go_enter Try.func4, Try.ntmps4
        go_wp2
        go_ret
        exact ⟨rfl, Below.refl _ _⟩

set_option maxRecDepth 100000 in
set_option maxHeartbeats 2000000 in
theorem parseDeep_near (b n : Nat) (w : World) (hb : b ≤ 100) (hn : n ≤ 100) :
    Calls Try.prog 4 #[.int .i64 b, .int .i64 n] w fun e w' => e = .returned (.bool true) ∧ Below w.heap.size w w' := by
  have g1 : ¬ ((b : Int) < 0) := by omega
  have g2 : ¬ ((100 : Int) < b) := by omega
  have g3 : ¬ ((n : Int) < 0) := by omega
  have g4 : ¬ ((100 : Int) < n) := by omega
  go_enter Try.func4, Try.ntmps4
  go_wp2
  go_loop [5, 6] (fun t i => ∃ (k : Nat) (s : ByteArray), k ≤ b ∧ i = .int .i64 k ∧ t = .string s ∧ Hid (s.data.toList = [] ++ List.replicate k 40)) (fun _ i => b - (intOf i).toNat)
  case atStart => exact ⟨0, ⟨#[]⟩, Nat.zero_le _, rfl, rfl, hid rfl⟩
  case round =>
    obtain ⟨k, s1, hk, rfl, rfl, hs1⟩ := hrel
    have hz1 : s1.size ≤ 1000 := by rw [size_of_list hs1.out]; simp; omega
    go_wp2
    · go_round
      case rel => exact ⟨k + 1, _, by omega, by go_num, rfl, hid (app_one hs1.out)⟩
      case measure => simp [intOf]; omega
    · obtain rfl : k = b := by omega
      go_loop [5, 7] (fun t i => ∃ (j : Nat) (s : ByteArray), j ≤ n ∧ i = .int .i64 j ∧ t = .string s ∧ Hid (s.data.toList = List.replicate k 40 ++ List.replicate j 33)) (fun _ i => n - (intOf i).toNat)
      case atStart => exact ⟨0, s1, Nat.zero_le _, rfl, rfl, hid (by rw [hs1.out]; simp)⟩
      case round =>
        obtain ⟨j, s2, hj, rfl, rfl, hs2⟩ := hrel
        have hz2 : s2.size ≤ 1000 := by rw [size_of_list hs2.out]; simp; omega
        go_wp2
        · go_round
          case rel => exact ⟨j + 1, _, by omega, by go_num, rfl, hid (app_one hs2.out)⟩
          case measure => simp [intOf]; omega
        · obtain rfl : j = n := by omega
          go_loop [5, 8] (fun t i => ∃ (m : Nat) (s : ByteArray), m ≤ k ∧ i = .int .i64 m ∧ t = .string s ∧ Hid (s.data.toList = ((List.replicate k 40 ++ List.replicate j 33) ++ [91, 97, 93]) ++ List.replicate m 41)) (fun _ i => k - (intOf i).toNat)
          case atStart => exact ⟨0, _, Nat.zero_le _, rfl, rfl, hid (by rw [app_set hs2.out]; simp)⟩
          case round =>
            obtain ⟨m, s3, hm, rfl, rfl, hs3⟩ := hrel
            have hz3 : s3.size ≤ 1000 := by rw [size_of_list hs3.out]; simp; omega
            have hs6 : (deepS k j).size ≤ 65536 := by rw [deepS_size]; omega
            by_cases hle : k + j ≤ 32
            · have HP := hid (deep_parse_ok k j hle)
              have hle' : (k : Int) + j ≤ 32 := by omega
              go_upto_region 17 with fail
              · go_round
                case rel => exact ⟨m + 1, by omega, by omega, hid (by have := app_one (c := 41) hs3.out; simpa using this)⟩
                case measure => simp [intOf]; omega
              · obtain rfl : m = k := by omega
                have hsd := deep_of hs3.out
                subst hsd
                go_wp2_with (first | (go_at_call 6; refine (parse_any (deepS m j) _ hs6).mono ?_; rintro e w1 hp; obtain ⟨hb1, kk, x, t, ad, nn, cap, mn, mx, rfl, hr1⟩ := hp.good HP.out; clear hp hr1) | (go_at_call 7; refine (awake_any _).mono ?_; rintro e w2 ⟨rfl, hb2⟩))
                go_ret
                exact ⟨rfl, bnext (bbox hb1 _) hb2⟩
            · have HP := hid (deep_parse_err k j (by omega) hb hn)
              have hle' : (32 : Int) < (k : Int) + j := by omega
              go_upto_region 17 with fail
              · go_round
                case rel => exact ⟨m + 1, by omega, by omega, hid (by have := app_one (c := 41) hs3.out; simpa using this)⟩
                case measure => simp [intOf]; omega
              · obtain rfl : m = k := by omega
                have hsd := deep_of hs3.out
                subst hsd
                go_wp2_with (first | (go_at_call 6; refine (parse_any (deepS m j) _ hs6).mono ?_; rintro e w1 hp; obtain ⟨hb1, rfl⟩ := hp.bad HP.out; clear hp) | (go_at_call 7; refine (awake_any _).mono ?_; rintro e w2 ⟨rfl, hb2⟩))
                go_ret
                exact ⟨rfl, bnext (bbox hb1 _) hb2⟩
end Go.Proofs.Ytcedjjlflahpcaa
