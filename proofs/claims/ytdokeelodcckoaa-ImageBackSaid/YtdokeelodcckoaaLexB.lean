/-
  The contract of lex.white, for a text of no more than 2^47 bytes.
-/
import Derived.Test.YtdokeelodcckoaaLexA
namespace Go.Proofs.Ytdokeelodcckoaa
open Go.RowKit Go.Lib

/-- what a function of package lex hands back that gives a byte, the place behind it, an error -/
def byteV (k : Nat) : Except Int (B × Nat) → Value
  | .ok (c, n) => .tuple #[.int .u8 c.toNat, .int .i64 ((k : Int) + n), .int .i64 0]
  | .error e => .tuple #[.int .u8 0, .int .i64 0, .int .i64 e]

def TwoRel (s : ByteArray) (k : Nat) (m : Nat) (n : Int) : Prop :=
  (m = 0 ∧ n = 0) ∨ (m = 1 ∧ ∃ h : k < s.size, 0 ≤ indexByte sixteen s[k] ∧ n = indexByte sixteen s[k]) ∨
  (m = 2 ∧ ∃ h : k + 1 < s.size, 0 ≤ indexByte sixteen s[k] ∧ 0 ≤ indexByte sixteen s[k + 1] ∧ n = 16 * indexByte sixteen s[k] + indexByte sixteen s[k + 1])

theorem two_bad (s : ByteArray) (k m : Nat) {q : Int} (h : k + m < s.size) (hn : indexByte sixteen s[k + m] < 0) (hq : TwoRel s k m q) (hm : m < 2) :
    byteV k (twoL (sfx s k)) = .tuple #[.int .u8 0, .int .i64 0, .int .i64 4] := by
  rcases hq with ⟨rfl, rfl⟩ | ⟨rfl, h1, h2, rfl⟩ | ⟨rfl, _⟩
  · rw [sfx_cons s k h]; simp [twoL, byteV, show indexByte sixteen s[k] < 0 from hn]
  · rw [sfx_cons s k h1, sfx_cons s (k + 1) h]; simp [twoL, byteV, show indexByte sixteen s[k + 1] < 0 from hn, show ¬ indexByte sixteen s[k] < 0 by omega]
  · omega
theorem two_more (s : ByteArray) (k m : Nat) {q : Int} (h : s.size ≤ k + m) (hm : m < 2) (hq : TwoRel s k m q) :
    byteV k (twoL (sfx s k)) = .tuple #[.int .u8 0, .int .i64 0, .int .i64 6] := by
  rcases hq with ⟨rfl, rfl⟩ | ⟨rfl, h1, h2, rfl⟩ | ⟨rfl, _⟩
  · rw [sfx_nil s k h]; simp [twoL, byteV]
  · rw [sfx_cons s k h1, sfx_nil s (k + 1) h]; simp [twoL, byteV, show ¬ indexByte sixteen s[k] < 0 by omega]
  · omega
theorem two_next (s : ByteArray) (k m : Nat) {q : Int} (h : k + m < s.size) (hn : 0 ≤ indexByte sixteen s[k + m]) (hq : TwoRel s k m q) (hm : m < 2) :
    TwoRel s k (m + 1) (16 * q + indexByte sixteen s[k + m]) := by
  rcases hq with ⟨rfl, rfl⟩ | ⟨rfl, h1, h2, rfl⟩ | ⟨rfl, _⟩
  · exact .inr (.inl ⟨rfl, h, hn, by simp⟩)
  · exact .inr (.inr ⟨rfl, h, h2, hn, rfl⟩)
  · omega
theorem two_bound {s : ByteArray} {k m : Nat} {q b : Int} (hq : TwoRel s k m q) (hb : b ≤ 15) (hm : m < 2) : 16 * q + b ≤ 255 := by
  rcases hq with ⟨rfl, rfl⟩ | ⟨rfl, h1, h2, rfl⟩ | ⟨rfl, _⟩
  · omega
  · have := sixteen_lt s[k]
    have : indexByte sixteen s[k] ≤ 15 := this
    omega
  · omega
theorem two_good (s : ByteArray) (k : Nat) {q : Int} (h0 : 0 ≤ q) (hq1 : q ≤ 255) (hq : TwoRel s k 2 q) :
    byteV k (twoL (sfx s k)) = .tuple #[.int .u8 q, .int .i64 ((k : Int) + 2), .int .i64 0] := by
  rcases hq with ⟨h, _⟩ | ⟨h, _⟩ | ⟨_, h1, h2, h3, rfl⟩
  · omega
  · omega
  · have a := sixteen_lt s[k]
    have b := sixteen_lt s[k + 1]
    have a' : indexByte sixteen s[k] ≤ 15 := a
    have b' : indexByte sixteen s[k + 1] ≤ 15 := b
    rw [sfx_cons s k (by omega), sfx_cons s (k + 1) h1]
    simp only [twoL, byteV, if_neg (show ¬ indexByte sixteen s[k] < 0 by omega), if_neg (show ¬ indexByte sixteen s[k + 1] < 0 by omega)]
    congr 4
    · simp; omega

set_option maxHeartbeats 400000 in
theorem two_any (s : ByteArray) (k : Nat) (w : World) (hk : k ≤ s.size) (hs : s.size ≤ maxLen) :
    Calls Try.prog 108 #[.string s, .int .i64 k] w fun e w' => e = .returned (byteV k (twoL (sfx s k))) ∧ w = w' := by
  unfold maxLen at hs
  go_enter Try.func108, Try.ntmps108
  go_wp2
  go_loop [1, 7, 9] (fun a n i => ∃ (m : Nat) (q : Int), m ≤ 2 ∧ k + m ≤ s.size ∧ 0 ≤ q ∧ q ≤ 255 ∧ i = .int .i64 m ∧ a = .int .i64 ((k + m : Nat) : Int) ∧ n = .int .i64 q ∧ TwoRel s k m q) (fun _ _ i => 2 - (intOf i).toNat)
  case atStart => exact ⟨0, 0, by omega, by omega, by omega, by omega, rfl, rfl, rfl, .inl ⟨rfl, rfl⟩⟩
  case round =>
    obtain ⟨m, q, hm, hkm, hq0, hq1, rfl, rfl, rfl, H⟩ := hrel
    by_cases hlt : m < 2
    · by_cases hlt2 : k + m < s.size
      · have hb := sixteen_lt s[k + m]
        go_wp2_with (go_at_call 109; refine (indexByte_any _ _ _).mono ?_; rintro e w' ⟨rfl, rfl⟩)
        · have hneg : indexByte sixteen s[k + m] < 0 := by assumption
          go_ret3
          refine ⟨ret_eq ?_, rfl⟩
          exact (two_bad s k m hlt2 hneg H hlt).symm
        · have hneg : 0 ≤ indexByte sixteen s[k + m] := by assumption
          go_round
          case rel => exact ⟨m + 1, 16 * q + indexByte sixteen s[k + m], by omega, by omega, by omega, two_bound H hb hlt, by go_num, by go_num, rfl, two_next s k m hlt2 hneg H hlt⟩
          case measure => simp [intOf]; omega
      · go_wp2
        go_ret3
        refine ⟨ret_eq ?_, rfl⟩
        exact (two_more s k m (by omega) hlt H).symm
    · go_wp2
      go_ret3
      refine ⟨ret_eq ?_, rfl⟩
      obtain rfl : m = 2 := by omega
      exact (two_good s k hq0 hq1 H).symm

theorem two_at (s : ByteArray) (a : Int) (k : Nat) (w : World) (ha : a = k) (hk : k ≤ s.size) (hs : s.size ≤ maxLen) :
    Calls Try.prog 108 #[.string s, .int .i64 a] w fun e w' => e = .returned (byteV k (twoL (sfx s k))) ∧ w = w' := by
  subst ha; exact two_any s k w hk hs
end Go.Proofs.Ytdokeelodcckoaa
