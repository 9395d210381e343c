/-
  The lexer: plain models and the contracts of its small functions (letters, white, one byte, names, numbers).
-/
import Derived.Lib.Bytealg
import Derived.Test.YtfljcfdfgojdoaaGreatDoorProg
import Derived.WalkKit
import Derived.WalkSpells
import Derived.WalkLawsBesides
import Derived.Deep.Light
import Derived.Lib.Strings
import Derived.Lib.OthersKept
/- Plain functions that say what package lex computes: lists of bytes, no program in sight. -/
namespace Go.Proofs.YtfljcfdfgojdoaaGreatDoor
open Go.Lib

abbrev B := UInt8
def letterB (n : Int) : Bool := decide (97 ≤ n) && decide (n ≤ 122) || decide (65 ≤ n) && decide (n ≤ 90) || decide (n = 95)
def digitB (n : Int) : Bool := decide (48 ≤ n) && decide (n ≤ 57)
abbrev special : List B := [92, 34, 91, 93, 94, 45]
abbrev sixteen : List B := [48, 49, 50, 51, 52, 53, 54, 55, 56, 57, 97, 98, 99, 100, 101, 102]
def plainB (c : B) : Bool := decide (32 ≤ (c.toNat : Int)) && decide ((c.toNat : Int) ≤ 126) && decide (indexByte special c < 0)
/-- white space; the flag: within a remark -/
def white : Bool → List B → List B
  | _, [] => []
  | true, c :: r => if ((c.toNat : Int) == 10) = true then white false r else white true r
  | false, c :: r => if ((c.toNat : Int) == 32) = true ∨ ((c.toNat : Int) == 10) = true ∨ ((c.toNat : Int) == 13) = true ∨ ((c.toNat : Int) == 9) = true then white false r else if ((c.toNat : Int) == 35) = true then white true r else c :: r
/-- two digits in sixteens -/
def twoL : List B → Except Int (B × Nat)
  | [] => .error 6
  | a :: r =>
    if indexByte sixteen a < 0 then .error 4 else
    match r with
    | [] => .error 6
    | b :: _ => if indexByte sixteen b < 0 then .error 4 else .ok (UInt8.ofNat (16 * indexByte sixteen a + indexByte sixteen b).toNat, 2)
/-- one byte, as it is written; how many bytes that takes -/
def oneL : List B → Except Int (B × Nat)
  | [] => .error 6
  | c :: r =>
    if ((c.toNat : Int) == 92) = false then (if plainB c then .ok (c, 1) else .error 4) else
    match r with
    | [] => .error 6
    | d :: t =>
      if ((d.toNat : Int) == 110) = true then .ok (10, 2) else
      if ((d.toNat : Int) == 116) = true then .ok (9, 2) else
      if ((d.toNat : Int) == 114) = true then .ok (13, 2) else
      if ((d.toNat : Int) == 120) = true then (match twoL t with | .error e => .error e | .ok (b, n) => .ok (b, n + 2)) else
      if indexByte special d ≥ 0 then .ok (d, 2) else .error 4
theorem indexByte_lt : ∀ (l : List B) (c : B), indexByte l c < l.length ∨ l = []
  | [], _ => .inr rfl
  | b :: l, c => .inl (by
    unfold indexByte
    have := indexByte_lt l c
    rcases this with h | h
    · simp only [List.length_cons]; split
      · omega
      · split <;> omega
    · subst h; simp only [List.length_cons, List.length_nil]; split
      · omega
      · simp [indexByte])
theorem sixteen_lt (c : B) : indexByte [48, 49, 50, 51, 52, 53, 54, 55, 56, 57, 97, 98, 99, 100, 101, 102] c ≤ 15 := by
  have := indexByte_lt [48, 49, 50, 51, 52, 53, 54, 55, 56, 57, 97, 98, 99, 100, 101, 102] c
  rcases this with h | h
  · simp at h ⊢; omega
  · simp at h
def sfx (s : ByteArray) (k : Nat) : List B := s.data.toList.drop k
theorem sfx_cons (s : ByteArray) (k : Nat) (h : k < s.size) : sfx s k = s[k] :: sfx s (k + 1) := by
  unfold sfx
  rw [List.drop_eq_getElem_cons (by simpa using h)]
  rfl
theorem sfx_nil (s : ByteArray) (k : Nat) (h : s.size ≤ k) : sfx s k = [] := by
  unfold sfx
  rw [List.drop_eq_nil_of_le (by simpa using h)]
theorem sfx_len (s : ByteArray) (k : Nat) : (sfx s k).length = s.size - k := by
  unfold sfx; simp
end Go.Proofs.YtfljcfdfgojdoaaGreatDoor

namespace Go.Proofs.YtfljcfdfgojdoaaGreatDoor
open Go.RowKit Go.Lib

theorem hid {p : Prop} (h : p) : Hid p := h
theorem ret_eq {a b : Value} (h : a = b) : Ending.returned a = .returned b := by rw [h]
theorem bool_eq {a b : Bool} (h : a = b) : Ending.returned (.bool a) = .returned (.bool b) := by rw [h]

set_option maxHeartbeats 400000 in
theorem digit_any (n : Int) (w : World) :
    Calls Tryz.prog 202 #[.int .u8 n] w fun e w' => e = .returned (.bool (digitB n)) ∧ w = w' := by
  go_enter Tryz.func202, Tryz.ntmps202
  go_wp2
  all_goals go_ret
  all_goals refine ⟨bool_eq ?_, rfl⟩
  all_goals rw [Bool.eq_iff_iff]; simp [digitB]; omega

set_option maxHeartbeats 400000 in
theorem letter_any (n : Int) (w : World) :
    Calls Tryz.prog 200 #[.int .u8 n] w fun e w' => e = .returned (.bool (letterB n)) ∧ w = w' := by
  go_enter Tryz.func200, Tryz.ntmps200
  go_wp2
  all_goals go_ret
  all_goals refine ⟨bool_eq ?_, rfl⟩
  all_goals rw [Bool.eq_iff_iff]; simp [letterB]; omega

theorem run_indexByte (s : ByteArray) (c : Int) (w : World) :
    (callFunc 217 #[.string s, .int .u8 c]).run Tryz.prog w = .ok (.value (.int .i64 (indexByte s.data.toList c.toNat.toUInt8))) w := by
  rw [run_callFunc_extern Tryz.func217 (by kernel_rfl) (by kernel_rfl) (by kernel_rfl) (e := Extern.BytealgIndexByte.indexByte) (by kernel_rfl), Lib.run_indexByteString]
  rfl

set_option maxHeartbeats 400000 in
theorem indexByte_any (s : ByteArray) (c : Int) (w : World) :
    Calls Tryz.prog 157 #[.string s, .int .u8 c] w fun e w' => e = .returned (.int .i64 (indexByte s.data.toList c.toNat.toUInt8)) ∧ w = w' := by
  have hr := fun w => run_indexByte s c w
  go_enter Tryz.func157, Tryz.ntmps157
  go_wp2
  go_ret
  exact ⟨rfl, rfl⟩

set_option maxHeartbeats 400000 in
theorem plain_any (c : B) (w : World) :
    Calls Tryz.prog 158 #[.int .u8 c.toNat] w fun e w' => e = .returned (.bool (plainB c)) ∧ w = w' := by
  go_enter Tryz.func158, Tryz.ntmps158
  go_wp2_with (go_at_call 157; refine (indexByte_any _ _ _).mono ?_; rintro e w' ⟨rfl, rfl⟩)
  all_goals go_ret
  all_goals refine ⟨bool_eq ?_, rfl⟩
  · have h1 : 32 ≤ (c.toNat : Int) := by assumption
    have h2 : (c.toNat : Int) ≤ 126 := by assumption
    simp only [plainB, special, decide_eq_true h1, decide_eq_true h2, Bool.true_and]
  · have h2 : ¬ (c.toNat : Int) ≤ 126 := by omega
    simp only [plainB, decide_eq_false h2, Bool.and_false, Bool.false_and]
  · have h2 : ¬ 32 ≤ (c.toNat : Int) := by omega
    simp only [plainB, decide_eq_false h2, Bool.false_and]

set_option maxHeartbeats 400000 in
theorem white_any (s : ByteArray) (k : Nat) (w : World) (hk : k ≤ s.size) (hs : s.size ≤ maxLen) :
    Calls Tryz.prog 175 #[.string s, .int .i64 k] w fun e w' => e = .returned (.int .i64 (s.size - (white false (sfx s k)).length : Nat)) ∧ w = w' := by
  unfold maxLen at hs
  go_enter Tryz.func175, Tryz.ntmps175
  go_wp2
  go_loop [1] (fun i => ∃ j : Nat, j ≤ s.size ∧ i = .int .i64 j ∧ Hid (white false (sfx s j) = white false (sfx s k))) (fun i => s.size - (intOf i).toNat)
  case atStart => exact ⟨k, hk, rfl, rfl⟩
  case round =>
    obtain ⟨j, hj, rfl, H⟩ := hrel
    by_cases hlt : j < s.size
    · have hc := hid (sfx_cons s j hlt)
      go_wp2
      case roundEnd =>
        go_round
        case rel => exact ⟨j + 1, by omega, by go_num, by show _ = _; rw [← H.out, hc.out]; simp [white, *]⟩
        case measure => simp [intOf]; omega
      case roundEnd =>
        go_round
        case rel => exact ⟨j + 1, by omega, by go_num, by show _ = _; rw [← H.out, hc.out]; simp [white, *]⟩
        case measure => simp [intOf]; omega
      case roundEnd =>
        go_round
        case rel => exact ⟨j + 1, by omega, by go_num, by show _ = _; rw [← H.out, hc.out]; simp [white, *]⟩
        case measure => simp [intOf]; omega
      case roundEnd =>
        go_round
        case rel => exact ⟨j + 1, by omega, by go_num, by show _ = _; rw [← H.out, hc.out]; simp [white, *]⟩
        case measure => simp [intOf]; omega
      · have g32 : (s[j].toNat : Int) = 35 := by simpa using ‹((s[j].toNat : Int) == 35) = true›
        go_loop [1] (fun i => ∃ m : Nat, j ≤ m ∧ m ≤ s.size ∧ i = .int .i64 m ∧ Hid (white true (sfx s m) = white false (sfx s k))) (fun i => s.size - (intOf i).toNat)
        case atStart => exact ⟨j, Nat.le_refl _, hj, rfl, by show _ = _; rw [← H.out, hc.out]; simp [white, *]⟩
        case round =>
          obtain ⟨m, hjm, hm, rfl, H2⟩ := hrel
          by_cases hlt2 : m < s.size
          · have hc2 := hid (sfx_cons s m hlt2)
            go_wp2
            · go_round
              case rel => exact ⟨m + 1, by omega, by omega, by go_num, by show _ = _; rw [← H2.out, hc2.out]; simp_all [white]⟩
              case measure => simp [intOf]; omega
            · have e10 : (s[m].toNat : Int) = 10 := by simpa using ‹((s[m].toNat : Int) != 10) = false›
              have hmj : m ≠ j := by rintro rfl; omega
              go_round
              case rel => exact ⟨m, by omega, rfl, by show _ = _; rw [← H2.out, hc2.out]; simp [white, e10]⟩
              case measure => simp [intOf]; omega
          · go_wp2
            go_round
            case rel => exact ⟨m, by omega, rfl, by show _ = _; rw [← H2.out, sfx_nil s m (by omega)]; simp [white]⟩
            case measure => simp [intOf]; omega
      · go_ret
        refine ⟨ret_eq ?_, rfl⟩
        rw [← H.out, hc.out]; simp [white, *]
        rw [sfx_len]; omega
    · go_wp2
      go_ret
      have := sfx_nil s j (by omega)
      have H' := H.out
      rw [this] at H'
      refine ⟨ret_eq ?_, rfl⟩
      rw [← H']; simp [white]; omega
end Go.Proofs.YtfljcfdfgojdoaaGreatDoor

namespace Go.Proofs.YtfljcfdfgojdoaaGreatDoor
open Go.RowKit Go.Lib

/-- what a function of package lex hands back that gives a byte, the place behind it, an error -/
def byteV (k : Nat) : Except Int (B × Nat) → Value
  | .ok (c, n) => .tuple #[.int .u8 c.toNat, .int .i64 ((k : Int) + n), .int .i64 0]
  | .error e => .tuple #[.int .u8 0, .int .i64 0, .int .i64 e]

def TwoRel (s : ByteArray) (k : Nat) (m : Nat) (n : Int) : Prop :=
  (m = 0 ∧ n = 0) ∨ (m = 1 ∧ ∃ h : k < s.size, 0 ≤ indexByte sixteen s[k] ∧ n = indexByte sixteen s[k]) ∨
  (m = 2 ∧ ∃ h : k + 1 < s.size, 0 ≤ indexByte sixteen s[k] ∧ 0 ≤ indexByte sixteen s[k + 1] ∧ n = 16 * indexByte sixteen s[k] + indexByte sixteen s[k + 1])

theorem two_bad (s : ByteArray) (k m : Nat) {q : Int} (h : k + m < s.size) (hn : indexByte sixteen s[k + m] < 0) (hq : TwoRel s k m q) (hm : m < 2) :
    byteV k (twoL (sfx s k)) = .tuple #[.int .u8 0, .int .i64 0, .int .i64 4] := by
  rcases hq with ⟨rfl, rfl⟩ | ⟨rfl, h1, h2, rfl⟩ | ⟨rfl, _⟩
  · rw [sfx_cons s k h]; simp [twoL, byteV, show indexByte sixteen s[k] < 0 from hn]
  · rw [sfx_cons s k h1, sfx_cons s (k + 1) h]; simp [twoL, byteV, show indexByte sixteen s[k + 1] < 0 from hn, show ¬ indexByte sixteen s[k] < 0 by omega]
  · omega
theorem two_more (s : ByteArray) (k m : Nat) {q : Int} (h : s.size ≤ k + m) (hm : m < 2) (hq : TwoRel s k m q) :
    byteV k (twoL (sfx s k)) = .tuple #[.int .u8 0, .int .i64 0, .int .i64 6] := by
  rcases hq with ⟨rfl, rfl⟩ | ⟨rfl, h1, h2, rfl⟩ | ⟨rfl, _⟩
  · rw [sfx_nil s k h]; simp [twoL, byteV]
  · rw [sfx_cons s k h1, sfx_nil s (k + 1) h]; simp [twoL, byteV, show ¬ indexByte sixteen s[k] < 0 by omega]
  · omega
theorem two_next (s : ByteArray) (k m : Nat) {q : Int} (h : k + m < s.size) (hn : 0 ≤ indexByte sixteen s[k + m]) (hq : TwoRel s k m q) (hm : m < 2) :
    TwoRel s k (m + 1) (16 * q + indexByte sixteen s[k + m]) := by
  rcases hq with ⟨rfl, rfl⟩ | ⟨rfl, h1, h2, rfl⟩ | ⟨rfl, _⟩
  · exact .inr (.inl ⟨rfl, h, hn, by simp⟩)
  · exact .inr (.inr ⟨rfl, h, h2, hn, rfl⟩)
  · omega
theorem two_bound {s : ByteArray} {k m : Nat} {q b : Int} (hq : TwoRel s k m q) (hb : b ≤ 15) (hm : m < 2) : 16 * q + b ≤ 255 := by
  rcases hq with ⟨rfl, rfl⟩ | ⟨rfl, h1, h2, rfl⟩ | ⟨rfl, _⟩
  · omega
  · have := sixteen_lt s[k]
    have : indexByte sixteen s[k] ≤ 15 := this
    omega
  · omega
theorem two_good (s : ByteArray) (k : Nat) {q : Int} (h0 : 0 ≤ q) (hq1 : q ≤ 255) (hq : TwoRel s k 2 q) :
    byteV k (twoL (sfx s k)) = .tuple #[.int .u8 q, .int .i64 ((k : Int) + 2), .int .i64 0] := by
  rcases hq with ⟨h, _⟩ | ⟨h, _⟩ | ⟨_, h1, h2, h3, rfl⟩
  · omega
  · omega
  · have a := sixteen_lt s[k]
    have b := sixteen_lt s[k + 1]
    have a' : indexByte sixteen s[k] ≤ 15 := a
    have b' : indexByte sixteen s[k + 1] ≤ 15 := b
    rw [sfx_cons s k (by omega), sfx_cons s (k + 1) h1]
    simp only [twoL, byteV, if_neg (show ¬ indexByte sixteen s[k] < 0 by omega), if_neg (show ¬ indexByte sixteen s[k + 1] < 0 by omega)]
    congr 4
    · simp; omega

set_option maxHeartbeats 400000 in
theorem two_any (s : ByteArray) (k : Nat) (w : World) (hk : k ≤ s.size) (hs : s.size ≤ maxLen) :
    Calls Tryz.prog 236 #[.string s, .int .i64 k] w fun e w' => e = .returned (byteV k (twoL (sfx s k))) ∧ w = w' := by
  unfold maxLen at hs
  go_enter Tryz.func236, Tryz.ntmps236
  go_wp2
  go_loop [1, 7, 9] (fun a n i => ∃ (m : Nat) (q : Int), m ≤ 2 ∧ k + m ≤ s.size ∧ 0 ≤ q ∧ q ≤ 255 ∧ i = .int .i64 m ∧ a = .int .i64 ((k + m : Nat) : Int) ∧ n = .int .i64 q ∧ TwoRel s k m q) (fun _ _ i => 2 - (intOf i).toNat)
  case atStart => exact ⟨0, 0, by omega, by omega, by omega, by omega, rfl, rfl, rfl, .inl ⟨rfl, rfl⟩⟩
  case round =>
    obtain ⟨m, q, hm, hkm, hq0, hq1, rfl, rfl, rfl, H⟩ := hrel
    by_cases hlt : m < 2
    · by_cases hlt2 : k + m < s.size
      · have hb := sixteen_lt s[k + m]
        go_wp2_with (go_at_call 157; refine (indexByte_any _ _ _).mono ?_; rintro e w' ⟨rfl, rfl⟩)
        · have hneg : indexByte sixteen s[k + m] < 0 := by assumption
          go_ret3
          refine ⟨ret_eq ?_, rfl⟩
          exact (two_bad s k m hlt2 hneg H hlt).symm
        · have hneg : 0 ≤ indexByte sixteen s[k + m] := by assumption
          go_round
          case rel => exact ⟨m + 1, 16 * q + indexByte sixteen s[k + m], by omega, by omega, by omega, two_bound H hb hlt, by go_num, by go_num, rfl, two_next s k m hlt2 hneg H hlt⟩
          case measure => simp [intOf]; omega
      · go_wp2
        go_ret3
        refine ⟨ret_eq ?_, rfl⟩
        exact (two_more s k m (by omega) hlt H).symm
    · go_wp2
      go_ret3
      refine ⟨ret_eq ?_, rfl⟩
      obtain rfl : m = 2 := by omega
      exact (two_good s k hq0 hq1 H).symm

theorem two_at (s : ByteArray) (a : Int) (k : Nat) (w : World) (ha : a = k) (hk : k ≤ s.size) (hs : s.size ≤ maxLen) :
    Calls Tryz.prog 236 #[.string s, .int .i64 a] w fun e w' => e = .returned (byteV k (twoL (sfx s k))) ∧ w = w' := by
  subst ha; exact two_any s k w hk hs
end Go.Proofs.YtfljcfdfgojdoaaGreatDoor

namespace Go.Proofs.YtfljcfdfgojdoaaGreatDoor
open Go.RowKit Go.Lib

set_option maxHeartbeats 400000 in
theorem one_any (s : ByteArray) (k : Nat) (w : World) (hk : k ≤ s.size) (hs : s.size ≤ maxLen) :
    Calls Tryz.prog 225 #[.string s, .int .i64 k] w fun e w' => e = .returned (byteV k (oneL (sfx s k))) ∧ w = w' := by
  have hs' := hs
  unfold maxLen at hs
  by_cases hlt : k < s.size
  · have hc := hid (sfx_cons s k hlt)
    by_cases hlt2 : k + 1 < s.size
    · have hc2 := hid (sfx_cons s (k + 1) hlt2)
      rcases h2 : twoL (sfx s (k + 2)) with x | ⟨b, n⟩
      all_goals
        have H2 := hid h2
        clear h2
        go_enter Tryz.func225, Tryz.ntmps225
        go_wp2_with (first | (go_at_call 158; refine (plain_any _ _).mono ?_; rintro e w' ⟨rfl, rfl⟩) | (go_at_call 157; refine (indexByte_any _ _ _).mono ?_; rintro e w' ⟨rfl, rfl⟩) | (go_at_call 236; refine (two_at s _ (k + 2) _ (by omega) (by omega) hs').mono ?_; rintro e w' ⟨rfl, rfl⟩; rw [H2.out]; simp only [byteV]))
        all_goals go_ret3
        all_goals refine ⟨ret_eq ?_, rfl⟩
        all_goals go_light
        all_goals rw [hc.out]
        all_goals rw [hc2.out]
        all_goals have H2' := H2.out
        all_goals simp only [Nat.add_assoc, Nat.reduceAdd]
        all_goals simp_all [oneL, byteV]
        all_goals first | omega | (rw [if_neg (Int.not_le.2 (show indexByte special s[k + 1] < 0 by assumption))])
    · go_enter Tryz.func225, Tryz.ntmps225
      go_wp2_with (first | (go_at_call 158; refine (plain_any _ _).mono ?_; rintro e w' ⟨rfl, rfl⟩) | (go_at_call 157; refine (indexByte_any _ _ _).mono ?_; rintro e w' ⟨rfl, rfl⟩))
      all_goals go_ret3
      all_goals refine ⟨ret_eq ?_, rfl⟩
      all_goals go_light
      all_goals rw [hc.out, sfx_nil s (k + 1) (by omega)]
      all_goals simp_all [oneL, byteV]
  · go_enter Tryz.func225, Tryz.ntmps225
    go_wp2
    go_ret3
    refine ⟨ret_eq ?_, rfl⟩
    rw [sfx_nil s k (by omega)]
    rfl

theorem one_at (s : ByteArray) (a : Int) (k : Nat) (w : World) (ha : a = k) (hk : k ≤ s.size) (hs : s.size ≤ maxLen) :
    Calls Tryz.prog 225 #[.string s, .int .i64 a] w fun e w' => e = .returned (byteV k (oneL (sfx s k))) ∧ w = w' := by
  subst ha; exact one_any s k w hk hs
end Go.Proofs.YtfljcfdfgojdoaaGreatDoor

/- Plain functions that say what package lex computes: tokens. -/
namespace Go.Proofs.YtfljcfdfgojdoaaGreatDoor
open Go.Lib

/-- a set of bytes, as its four numbers -/
structure Se where
  a : Int
  b : Int
  c : Int
  d : Int
  deriving DecidableEq
def Se.none : Se := ⟨0, 0, 0, 0⟩
structure Tok where
  kind : Int
  text : List B
  set : Se
  num : Int
  pos : Int
  deriving DecidableEq
def Tok.zero : Tok := ⟨0, [], Se.none, 0, 0⟩
def Tok.cells (t : Tok) : Array Value := #[.int .i64 t.kind, .string ⟨t.text.toArray⟩, .int .u64 t.set.a, .int .u64 t.set.b, .int .u64 t.set.c, .int .u64 t.set.d, .int .i64 t.num, .int .i64 t.pos]
/-- what a function of package lex hands back that gives a token, the place behind it, an error -/
def tokV (k : Nat) : Except Int (Tok × Nat) → Value
  | .ok (t, n) => .tuple #[.agg t.cells, .int .i64 ((k : Int) + n), .int .i64 0]
  | .error e => .tuple #[.agg Tok.zero.cells, .int .i64 0, .int .i64 e]

def nameB (c : B) : Bool := letterB c.toNat || digitB c.toNat
def nameLen (r : List B) : Nat := (r.takeWhile nameB).length
def nameL (r : List B) : Except Int (Tok × Nat) :=
  if 31 < (nameLen r : Int) then .error 2 else .ok (⟨1, r.take (nameLen r), Se.none, 0, 0⟩, nameLen r)
theorem nameLen_yes {c : B} {r : List B} (h : nameB c = true) : nameLen (c :: r) = nameLen r + 1 := by simp [nameLen, h]
theorem nameLen_no {c : B} {r : List B} (h : nameB c = false) : nameLen (c :: r) = 0 := by simp [nameLen, h]

def digLen (r : List B) : Nat := (r.takeWhile (fun c => digitB c.toNat)).length
def numVal (l : List B) : Int := l.foldl (fun n c => 10 * n + ((c.toNat : Int) - 48)) 0
def numL (r : List B) : Except Int (Tok × Nat) :=
  if 4 < (digLen r : Int) then .error 2 else .ok (⟨5, [], Se.none, numVal (r.take (digLen r)), 0⟩, digLen r)
theorem digLen_yes {c : B} {r : List B} (h : digitB c.toNat = true) : digLen (c :: r) = digLen r + 1 := by simp [digLen, h]
theorem digLen_no {c : B} {r : List B} (h : digitB c.toNat = false) : digLen (c :: r) = 0 := by simp [digLen, h]

theorem dig_at : ∀ (r : List B) (i : Nat) (_h : i < digLen r), ∃ c, r[i]? = some c ∧ digitB c.toNat = true
  | [], i, h => by simp [digLen] at h
  | c :: r, i, h => by
    by_cases hc : digitB c.toNat = true
    · rw [digLen_yes hc] at h
      cases i with
      | zero => exact ⟨c, rfl, hc⟩
      | succ i => obtain ⟨d, h1, h2⟩ := dig_at r i (by omega); exact ⟨d, by simpa using h1, h2⟩
    · rw [digLen_no (by simpa using hc)] at h; omega
theorem numVal_snoc (l : List B) (c : B) : numVal (l ++ [c]) = 10 * numVal l + ((c.toNat : Int) - 48) := by simp [numVal]
theorem digitB_bd {c : B} (h : digitB c.toNat = true) : 48 ≤ (c.toNat : Int) ∧ (c.toNat : Int) ≤ 57 := by simpa [digitB] using h
theorem take_sfx (s : ByteArray) (k m : Nat) (h : k + m < s.size) : (sfx s k).take (m + 1) = (sfx s k).take m ++ [s[k + m]] := by
  rw [List.take_succ_eq_append_getElem (by rw [sfx_len]; omega)]
  congr 2
  simp [sfx]; rfl
theorem numVal_bd (s : ByteArray) (k : Nat) : ∀ m, k + m ≤ s.size → m ≤ digLen (sfx s k) → 0 ≤ numVal ((sfx s k).take m) ∧ numVal ((sfx s k).take m) < 10 ^ m
  | 0, _, _ => by simp [numVal]
  | m + 1, h1, h2 => by
    obtain ⟨a, b⟩ := numVal_bd s k m (by omega) (by omega)
    obtain ⟨c, hc, hd⟩ := dig_at (sfx s k) m (by omega)
    have e : c = s[k + m] := by
      rw [sfx, List.getElem?_drop] at hc
      rw [List.getElem?_eq_getElem (by simpa using (show k + m < s.size by omega))] at hc
      exact (Option.some.inj hc).symm
    subst e
    rw [take_sfx s k m (by omega), numVal_snoc, Int.pow_succ]
    have := digitB_bd hd
    omega
theorem dig_sfx (s : ByteArray) (k m i : Nat) (hm : digLen (sfx s k) = m) (hi : i < m) (hl : k + i < s.size) : 48 ≤ (s[k + i].toNat : Int) ∧ (s[k + i].toNat : Int) ≤ 57 := by
  obtain ⟨c, hc, hd⟩ := dig_at (sfx s k) i (by omega)
  have e : c = s[k + i] := by
    rw [sfx, List.getElem?_drop] at hc
    rw [List.getElem?_eq_getElem (by simpa using hl)] at hc
    exact (Option.some.inj hc).symm
  subst e
  exact digitB_bd hd
theorem extract_sfx (s : ByteArray) (k m : Nat) : s.extract k (k + m) = ⟨((sfx s k).take m).toArray⟩ := by
  apply ByteArray.ext
  apply Array.ext'
  simp [sfx, List.take_drop]

theorem twoL_len {r : List B} {b : B} {n : Nat} (h : twoL r = .ok (b, n)) : n = 2 ∧ 2 ≤ r.length := by
  unfold twoL at h
  split at h
  · cases h
  · split at h
    · cases h
    · split at h
      · cases h
      · split at h
        · cases h
        · simp only [Except.ok.injEq, Prod.mk.injEq] at h
          exact ⟨h.2.symm, by simp⟩
theorem oneL_len {r : List B} {b : B} {n : Nat} (h : oneL r = .ok (b, n)) : 1 ≤ n ∧ n ≤ r.length := by
  unfold oneL at h
  split at h
  · cases h
  · split at h
    · split at h
      · simp only [Except.ok.injEq, Prod.mk.injEq] at h; rw [← h.2]; simp
      · cases h
    · split at h
      · cases h
      · split at h
        · simp only [Except.ok.injEq, Prod.mk.injEq] at h; rw [← h.2]; simp
        · split at h
          · simp only [Except.ok.injEq, Prod.mk.injEq] at h; rw [← h.2]; simp
          · split at h
            · simp only [Except.ok.injEq, Prod.mk.injEq] at h; rw [← h.2]; simp
            · split at h
              · split at h
                · cases h
                · rename_i h2
                  simp only [Except.ok.injEq, Prod.mk.injEq] at h; rw [← h.2]
                  have := twoL_len h2
                  simp only [List.length_cons]; omega
              · split at h
                · simp only [Except.ok.injEq, Prod.mk.injEq] at h; rw [← h.2]; simp
                · cases h
theorem twoL_err {r : List B} {e : Int} (h : twoL r = .error e) : e = 4 ∨ e = 6 := by
  unfold twoL at h
  split at h
  · cases h; exact .inr rfl
  · split at h
    · cases h; exact .inl rfl
    · split at h
      · cases h; exact .inr rfl
      · split at h
        · cases h; exact .inl rfl
        · cases h
theorem oneL_err {r : List B} {e : Int} (h : oneL r = .error e) : e = 4 ∨ e = 6 := by
  unfold oneL at h
  split at h
  · cases h; exact .inr rfl
  · split at h
    · split at h
      · cases h
      · cases h; exact .inl rfl
    · split at h
      · cases h; exact .inr rfl
      · split at h
        · cases h
        · split at h
          · cases h
          · split at h
            · cases h
            · split at h
              · split at h
                · rename_i h2; cases h; exact twoL_err h2
                · cases h
              · split at h
                · cases h
                · cases h; exact .inl rfl
/-- a text up to its closing sign; the fuel: more than the bytes that are left -/
def quoL : Nat → List B → List B → Except Int (List B × List B)
  | 0, _, _ => .error 6
  | _ + 1, _, [] => .error 6
  | f + 1, acc, c :: r =>
    if ((c.toNat : Int) != 34) = false then .ok (acc, r) else
    match oneL (c :: r) with
    | .error e => .error e
    | .ok (b, n) => quoL f (acc ++ [b]) ((c :: r).drop n)
def quotedL (r : List B) : Except Int (Tok × Nat) :=
  match quoL (r.length + 1) [] r with
  | .error e => .error e
  | .ok (t, rest) => if 256 < (t.length : Int) then .error 2 else .ok (⟨2, t, Se.none, 0, 0⟩, r.length - rest.length)
end Go.Proofs.YtfljcfdfgojdoaaGreatDoor

namespace Go.Proofs.YtfljcfdfgojdoaaGreatDoor
open Go.RowKit Go.Lib

theorem results_cell3 {P : Program} {fn : Func} {p q r : Tmp} {ty : TypeId} (h : fn.results = #[.cell p ty, .tmp q, .tmp r]) (tmps : Array Value) (w : World) (g : Nat) (t : TypeId) (cs : Array Value) (fr : Nat × Nat) (d : TypeDesc)
    (hp : tmps.getD p undef = .pointer (some ⟨g, 0, none⟩)) (hg : w.heap[g]? = some (.cells cs t fr))
    (hu : P.underlying ty = some d) (hd : (match d with | .struct _ | .array _ _ => true | _ => false) = true) (hi : (P.info? ty).map (·.size) = some cs.size) :
    (results fn tmps).run P w = .ok (.tuple #[.agg cs, tmps.getD q undef, tmps.getD r undef]) w := by
  have hp' : tmps[p]?.getD undef = .pointer (some ⟨g, 0, none⟩) := by simpa using hp
  simp [results, h, hp', asAddr, run_loadVar_row w g t ty cs fr d hg hu hd hi]
theorem setRow_heap {w : World} {g : Nat} {old : Array Value} {t : TypeId} (hg : w.heap[g]? = some (.cells old t (0, 0))) (cs : Array Value) : (w.setRow g cs).heap[g]? = some (.cells cs t (0, 0)) := by
  simp [World.setRow, Array.getElem?_modify, hg]
theorem setRow_other {w : World} {g k : Nat} (cs : Array Value) (h : k ≠ g) : (w.setRow g cs).heap[k]? = w.heap[k]? := by
  simp [World.setRow, Array.getElem?_modify, Ne.symm h]
theorem Below.setRow {B : Nat} {a w : World} (h : Below B a w) {g : Nat} (hg : B ≤ g) (cs : Array Value) : Below B a (w.setRow g cs) :=
  h.trans ⟨rfl, rfl, rfl, by simp, fun k hk => setRow_other cs (by omega)⟩
/-- A whole struct goes into a block of its own, which is known whole. -/
theorem wpList_store_blk {P : Program} {ops : Array Oper} {rest : List Oper} {o : Oper} {a : Act} {w : World} {Q : Exit → Act → World → Prop} (hgd : o.guard = none) (ty : TypeId) (x y : Operand) (ho : o.op = .store ty x y)
    (n : Nat) (hi : (P.info? ty).map (·.size) = some n) (g : Nat) (t : TypeId) (old : Array Value) (hg : w.heap[g]? = some (.cells old t (0, 0))) (hold : old.size = n)
    (cells : Array Value) (hx : a.eval x = .pointer (some ⟨g, 0, none⟩)) (hy : a.eval y = .agg cells) (hn : cells.size = n) (h1 : cells.toList.all (·.oneCell') = true)
    (h : wpList P ops Q rest (a.put o.dst undef) (w.setRow g cells)) : wpList P ops Q (o :: rest) a w := by
  subst hn
  exact wpList_store_row hgd ty x y ho g cells hx hy t old hg hi hold (by rw [← Array.all_toList]; exact h1) h
theorem info63 : (Tryz.prog.info? 139).map (·.size) = some 8 := by kernel_rfl

theorem tokV_bad {k : Nat} {x : Except Int (Tok × Nat)} {e : Int} (h : x = .error e) : tokV k x = .tuple #[.agg #[.int .i64 0, .string ⟨#[]⟩, .int .u64 0, .int .u64 0, .int .u64 0, .int .u64 0, .int .i64 0, .int .i64 0], .int .i64 0, .int .i64 e] := by
  rw [h]; rfl
theorem tokV_ok {k n : Nat} {x : Except Int (Tok × Nat)} {t : Tok} (h : x = .ok (t, n)) : tokV k x = .tuple #[.agg t.cells, .int .i64 ((k : Int) + n), .int .i64 0] := by
  rw [h]; rfl
theorem nameL_bad {r : List B} {m : Nat} (h : nameLen r = m) (hm : 31 < m) : nameL r = .error 2 := by
  unfold nameL; rw [if_pos (by omega)]
theorem nameL_ok {r : List B} {m : Nat} (h : nameLen r = m) (hm : ¬ 31 < m) : nameL r = .ok (⟨1, r.take m, Se.none, 0, 0⟩, m) := by
  unfold nameL; rw [if_neg (by omega), h]
theorem nameB_letter {c : B} (h : letterB c.toNat = true) : nameB c = true := by simp [nameB, h]
theorem nameB_digit {c : B} (h : digitB c.toNat = true) : nameB c = true := by simp [nameB, h]
theorem nameB_not {c : B} (h : ¬ letterB c.toNat = true) (h' : digitB c.toNat = false) : nameB c = false := by simp [nameB, h, h']

set_option maxHeartbeats 400000 in
theorem name_any (s : ByteArray) (k : Nat) (w : World) (hk : k ≤ s.size) (hs : s.size ≤ maxLen) :
    Calls Tryz.prog 201 #[.string s, .int .i64 k] w fun e w' => e = .returned (tokV k (nameL (sfx s k))) ∧ Below w.heap.size w w' := by
  unfold maxLen at hs
  go_enter Tryz.func201, Tryz.ntmps201
  go_wp2
  go_loop [7] (fun i => ∃ m : Nat, k + m ≤ s.size ∧ i = .int .i64 ((k : Int) + m) ∧ Hid (nameLen (sfx s k) = m + nameLen (sfx s (k + m)))) (fun i => s.size - (intOf i).toNat)
  case atStart => exact ⟨0, hk, by simp, by show _ = _; simp⟩
  case round =>
    obtain ⟨m, hm, rfl, H⟩ := hrel
    by_cases hlt : k + m < s.size
    · have hc := hid (sfx_cons s (k + m) hlt)
      go_wp2_with (first | (go_at_call 200; refine (letter_any _ _).mono ?_; rintro e w' ⟨rfl, rfl⟩) | (go_at_call 202; refine (digit_any _ _).mono ?_; rintro e w' ⟨rfl, rfl⟩))
      case roundEnd =>
        have hl : letterB s[k + m].toNat = true := by assumption
        go_round
        case rel => exact ⟨m + 1, by omega, by go_num, by show _ = _; rw [H.out, hc.out, nameLen_yes (nameB_letter hl)]; simp only [Nat.add_assoc]; omega⟩
        case measure => simp [intOf]; omega
      case roundEnd =>
        have hl : digitB s[k + m].toNat = true := by assumption
        go_round
        case rel => exact ⟨m + 1, by omega, by go_num, by show _ = _; rw [H.out, hc.out, nameLen_yes (nameB_digit hl)]; simp only [Nat.add_assoc]; omega⟩
        case measure => simp [intOf]; omega
      all_goals go_light
      all_goals have hl : ¬ letterB s[k + m].toNat = true := by assumption
      all_goals have hd : digitB s[k + m].toNat = false := by assumption
      all_goals have hn : nameLen (sfx s k) = m := by rw [H.out, hc.out, nameLen_no (nameB_not hl hd)]; rfl
      · exact bodyPost_ret (v := tokV k (nameL (sfx s k))) (by simp [results, Tryz.results201, go_sem, tokV_bad (nameL_bad hn (by omega))]) rfl ⟨rfl, (Below.refl _ _).alloc (Nat.le_refl _) _⟩
      · exact bodyPost_ret (v := tokV k (nameL (sfx s k))) (by simp [results, Tryz.results201, go_sem, tokV_ok (nameL_ok hn (by omega)), Tok.cells, Se.none, extract_sfx]) rfl ⟨rfl, (Below.refl _ _).alloc (Nat.le_refl _) _⟩
    · go_wp2
      all_goals go_light
      all_goals have hn : nameLen (sfx s k) = m := by rw [H.out, sfx_nil s (k + m) (by omega)]; rfl
      · exact bodyPost_ret (v := tokV k (nameL (sfx s k))) (by simp [results, Tryz.results201, go_sem, tokV_bad (nameL_bad hn (by omega))]) rfl ⟨rfl, (Below.refl _ _).alloc (Nat.le_refl _) _⟩
      · exact bodyPost_ret (v := tokV k (nameL (sfx s k))) (by simp [results, Tryz.results201, go_sem, tokV_ok (nameL_ok hn (by omega)), Tok.cells, Se.none, extract_sfx]) rfl ⟨rfl, (Below.refl _ _).alloc (Nat.le_refl _) _⟩
end Go.Proofs.YtfljcfdfgojdoaaGreatDoor

namespace Go.Proofs.YtfljcfdfgojdoaaGreatDoor
open Go.RowKit Go.Lib

theorem numL_bad {r : List B} {m : Nat} (h : digLen r = m) (hm : 4 < m) : numL r = .error 2 := by
  unfold numL; rw [if_pos (by omega)]
theorem numL_ok {r : List B} {m : Nat} (h : digLen r = m) (hm : ¬ 4 < m) : numL r = .ok (⟨5, [], Se.none, numVal (r.take m), 0⟩, m) := by
  unfold numL; rw [if_neg (by omega), h]
theorem num_lt4 {m : Nat} {x : Int} (h : x < 10 ^ m) (hm : m ≤ 4) : x ≤ 9999 := by
  have hc : m = 0 ∨ m = 1 ∨ m = 2 ∨ m = 3 ∨ m = 4 := by omega
  rcases hc with rfl | rfl | rfl | rfl | rfl <;> simp at h <;> omega

set_option maxHeartbeats 800000 in
theorem number_any (s : ByteArray) (k : Nat) (w : World) (hk : k ≤ s.size) (hs : s.size ≤ maxLen) :
    Calls Tryz.prog 203 #[.string s, .int .i64 k] w fun e w' => e = .returned (tokV k (numL (sfx s k))) ∧ Below w.heap.size w w' := by
  unfold maxLen at hs
  go_enter Tryz.func203, Tryz.ntmps203
  go_wp2
  go_loop [7] (fun i => ∃ m : Nat, k + m ≤ s.size ∧ i = .int .i64 ((k : Int) + m) ∧ Hid (digLen (sfx s k) = m + digLen (sfx s (k + m)))) (fun i => s.size - (intOf i).toNat)
  case atStart => exact ⟨0, hk, by simp, by show _ = _; simp⟩
  case round =>
    obtain ⟨m, hm, rfl, H⟩ := hrel
    by_cases hlt : k + m < s.size
    · have hc := hid (sfx_cons s (k + m) hlt)
      go_wp2_with (first | (go_at_call 202; refine (digit_any _ _).mono ?_; rintro e w' ⟨rfl, rfl⟩))
      case roundEnd =>
        have hl : digitB s[k + m].toNat = true := by assumption
        go_round
        case rel => exact ⟨m + 1, by omega, by go_num, by show _ = _; rw [H.out, hc.out, digLen_yes hl]; simp only [Nat.add_assoc]; omega⟩
        case measure => simp [intOf]; omega
      all_goals have hd : digitB s[k + m].toNat = false := by assumption
      all_goals have hn : digLen (sfx s k) = m := by rw [H.out, hc.out, digLen_no hd]; rfl
      · exact bodyPost_ret (v := tokV k (numL (sfx s k))) (by simp [results, Tryz.results203, go_sem, tokV_bad (numL_bad hn (by omega))]) rfl ⟨rfl, (Below.refl _ _).alloc (Nat.le_refl _) _⟩
      · have h4 : decide (4 < (k : Int) + m - k) = false := decide_eq_false (by omega)
        simp only [h4, hd]
        go_loop [8, 9] (fun n i => ∃ j : Nat, j ≤ m ∧ i = .int .i64 ((k : Int) + j) ∧ n = .int .i64 (numVal ((sfx s k).take j))) (fun _ i => k + m - (intOf i).toNat)
        case atStart => exact ⟨0, by omega, by simp, rfl⟩
        case round =>
          obtain ⟨j, hj, rfl, rfl⟩ := hrel
          have hnb := numVal_bd s k j (by omega) (by omega)
          have hn0 := hnb.1
          have hn9 := num_lt4 hnb.2 (by omega)
          by_cases hjm : j < m
          · have hkj : k + j < s.size := Nat.lt_of_lt_of_le (Nat.add_lt_add_left hjm k) hm
            have hd0 : 48 ≤ ((s[k + j]'hkj).toNat : Int) := (dig_sfx s k m j hn hjm hkj).1
            have hd9 : ((s[k + j]'hkj).toNat : Int) ≤ 57 := (dig_sfx s k m j hn hjm hkj).2
            have hst := hid (take_sfx s k j hkj)
            have hn' := hid hn
            clear hnb hn
            go_wp2
            go_round
            case rel => exact ⟨j + 1, by omega, by go_num, by rw [hst.out, numVal_snoc]⟩
            case measure => simp [intOf]; omega
          · obtain rfl : j = m := by omega
            have hn' := hid hn
            clear hnb hn
            go_wp2
            exact bodyPost_ret (v := tokV k (numL (sfx s k))) (by simp [results, Tryz.results203, go_sem, tokV_ok (numL_ok hn'.out (by omega)), Tok.cells, Se.none]) rfl ⟨rfl, (Below.refl _ _).alloc (Nat.le_refl _) _⟩
    · go_wp2
      all_goals have hn : digLen (sfx s k) = m := by rw [H.out, sfx_nil s (k + m) (by omega)]; rfl
      · exact bodyPost_ret (v := tokV k (numL (sfx s k))) (by simp [results, Tryz.results203, go_sem, tokV_bad (numL_bad hn (by omega))]) rfl ⟨rfl, (Below.refl _ _).alloc (Nat.le_refl _) _⟩
      · have h4 : decide (4 < (k : Int) + m - k) = false := decide_eq_false (by omega)
        simp only [h4]
        go_loop [8, 9] (fun n i => ∃ j : Nat, j ≤ m ∧ i = .int .i64 ((k : Int) + j) ∧ n = .int .i64 (numVal ((sfx s k).take j))) (fun _ i => k + m - (intOf i).toNat)
        case atStart => exact ⟨0, by omega, by simp, rfl⟩
        case round =>
          obtain ⟨j, hj, rfl, rfl⟩ := hrel
          have hnb := numVal_bd s k j (by omega) (by omega)
          have hn0 := hnb.1
          have hn9 := num_lt4 hnb.2 (by omega)
          by_cases hjm : j < m
          · have hkj : k + j < s.size := Nat.lt_of_lt_of_le (Nat.add_lt_add_left hjm k) hm
            have hd0 : 48 ≤ ((s[k + j]'hkj).toNat : Int) := (dig_sfx s k m j hn hjm hkj).1
            have hd9 : ((s[k + j]'hkj).toNat : Int) ≤ 57 := (dig_sfx s k m j hn hjm hkj).2
            have hst := hid (take_sfx s k j hkj)
            have hn' := hid hn
            clear hnb hn
            go_wp2
            go_round
            case rel => exact ⟨j + 1, by omega, by go_num, by rw [hst.out, numVal_snoc]⟩
            case measure => simp [intOf]; omega
          · obtain rfl : j = m := by omega
            have hn' := hid hn
            clear hnb hn
            go_wp2
            exact bodyPost_ret (v := tokV k (numL (sfx s k))) (by simp [results, Tryz.results203, go_sem, tokV_ok (numL_ok hn'.out (by omega)), Tok.cells, Se.none]) rfl ⟨rfl, (Below.refl _ _).alloc (Nat.le_refl _) _⟩
end Go.Proofs.YtfljcfdfgojdoaaGreatDoor

namespace Go.Proofs.YtfljcfdfgojdoaaGreatDoor
open Go.RowKit Go.Lib

def prefB (p r : List B) : Bool := r.take p.length == p
theorem prefB_yes (s p : ByteArray) : ((s.extract 0 p.size).toList == p.toList) = prefB p.data.toList s.data.toList := by
  unfold prefB
  rw [ByteArray.toList_eq, ByteArray.toList_eq, Bool.eq_iff_iff]
  simp
theorem prefB_no (s p : ByteArray) (h : ¬ p.size ≤ s.size) : prefB p.data.toList s.data.toList = false := by
  unfold prefB
  rw [beq_eq_false_iff_ne]
  intro e
  have := congrArg List.length e
  simp at this
  omega

set_option maxHeartbeats 400000 in
theorem prefix_any (s p : ByteArray) (w : World)  :
    Calls Tryz.prog 228 #[.string s, .string p] w fun e w' => e = .returned (.bool (prefB p.data.toList s.data.toList)) ∧ w = w' := by
  go_enter Tryz.func228, Tryz.ntmps228
  go_wp2
  · go_ret
    exact ⟨bool_eq (prefB_yes s p), rfl⟩
  · go_ret
    exact ⟨bool_eq (prefB_no s p (by assumption)).symm, rfl⟩

abbrev signs : ByteArray := ⟨#[61, 59, 40, 41, 124, 38, 33, 42, 43, 63, 58, 46, 47, 44, 123, 125, 126, 62]⟩
theorem signs_low : ∀ (i : Nat) (h : i < 18), (signs[i]'h).toNat < 128 := by decide
def isSign (c : B) : Bool := signs.data.toList.any (fun d => d.toNat == c.toNat)
def signL (r : List B) : Except Int (Tok × Nat) :=
  if prefB [45, 62] r then .ok (⟨4, [45, 62], Se.none, 0, 0⟩, 2) else
  match r with
  | [] => .error 4
  | c :: _ => if isSign c then .ok (⟨4, [c], Se.none, 0, 0⟩, 1) else .error 4

theorem prefB_two (s : ByteArray) (k : Nat) (h : prefB [45, 62] (sfx s k) = true) : k + 2 ≤ s.size := by
  unfold prefB at h
  rw [beq_iff_eq] at h
  have := congrArg List.length h
  simp [sfx_len] at this
  omega
theorem sign_eq {a b : B} (h : ((a.toNat : Int) == wrap32 (b.toNat : Int)) = true) : a.toNat = b.toNat := by
  have hb := b.toNat_lt
  rw [IntWalk.wrap32_in _ ⟨by omega, by omega⟩, beq_iff_eq] at h
  omega
theorem sign_ne {a b : B} (h : ((a.toNat : Int) == wrap32 (b.toNat : Int)) = false) : a.toNat ≠ b.toNat := by
  have hb := b.toNat_lt
  rw [IntWalk.wrap32_in _ ⟨by omega, by omega⟩, beq_eq_false_iff_ne] at h
  omega
theorem isSign_iff (c : B) : isSign c = true ↔ ∃ (j : Nat) (h : j < 18), (signs[j]'h).toNat = c.toNat := by
  unfold isSign
  rw [List.any_eq_true]
  constructor
  · rintro ⟨d, hd, he⟩
    obtain ⟨j, hj, rfl⟩ := List.getElem_of_mem hd
    exact ⟨j, hj, beq_iff_eq.1 he⟩
  · rintro ⟨j, h, he⟩
    exact ⟨signs[j], List.getElem_mem (l := signs.data.toList) h, by simpa using he⟩
theorem signL_yes (s : ByteArray) (k : Nat) (hk : k < s.size) (hp : prefB [45, 62] (sfx s k) = false) (pos : Nat) (h : pos < 18) (he : (((signs[pos]'h).toNat : Int) == wrap32 ((s[k]'hk).toNat : Int)) = true) :
    signL (sfx s k) = .ok (⟨4, [s[k]], Se.none, 0, 0⟩, 1) := by
  unfold signL
  rw [hp, sfx_cons s k hk]
  simp only [Bool.false_eq_true, if_false]
  rw [if_pos ((isSign_iff _).2 ⟨pos, h, sign_eq he⟩)]
theorem signL_no (s : ByteArray) (k : Nat) (hk : k < s.size) (hp : prefB [45, 62] (sfx s k) = false) (he : ∀ (j : Nat) (h : j < 18), (signs[j]'h).toNat ≠ (s[k]'hk).toNat) :
    signL (sfx s k) = .error 4 := by
  unfold signL
  rw [hp, sfx_cons s k hk]
  simp only [Bool.false_eq_true, if_false]
  rw [if_neg (fun hc => by obtain ⟨j, h, e⟩ := (isSign_iff _).1 hc; exact he j h e)]

set_option maxHeartbeats 400000 in
theorem sign_any (s : ByteArray) (k : Nat) (w : World) (hk : k < s.size) (hs : s.size ≤ maxLen) :
    Calls Tryz.prog 206 #[.string s, .int .i64 k] w fun e w' => e = .returned (tokV k (signL (sfx s k))) ∧ Below w.heap.size w w' := by
  unfold maxLen at hs
  have hp : Hid (prefB [45, 62] (s.extract k s.size).data.toList = prefB [45, 62] (sfx s k)) := by
    show _ = _
    congr 1
    simp [sfx]
    rw [List.take_of_length_le (by simp)]
  cases hpv : prefB [45, 62] (sfx s k)
  · have hpv' := hid hpv
    clear hpv
    have hz0 : ((w.alloc (.cells #[.int .i64 0, .string ⟨#[]⟩, .int .u64 0, .int .u64 0, .int .u64 0, .int .u64 0, .int .i64 0, .int .i64 0] 139)).iter signs 0).heap[w.heap.size]? = some (.cells Tok.zero.cells 139) := heap_alloc2_old _ _ _
    have hz1 : ((w.alloc (.cells #[.int .i64 0, .string ⟨#[]⟩, .int .u64 0, .int .u64 0, .int .u64 0, .int .u64 0, .int .i64 0, .int .i64 0] 139)).iter signs 0).heap[w.heap.size + 1]? = some (.stringIter signs 0) := heap_alloc2_new _ _ _
    go_enter Tryz.func206, Tryz.ntmps206
    go_wp2_with (first | (go_at_call 228; refine (prefix_any _ _ _).mono ?_; rintro e w' ⟨rfl, rfl⟩; rw [hp.out, hpv'.out]))
    go_loopw [8] (fun _ wr => ∃ pos : Nat, pos ≤ 18 ∧ wr.heap[w.heap.size]? = some (.cells Tok.zero.cells 139) ∧ wr.heap[w.heap.size + 1]? = some (.stringIter signs pos) ∧ Below w.heap.size w wr ∧ Hid (∀ j, j < pos → ∀ h : j < 18, (signs[j]'h).toNat ≠ (s[k]'hk).toNat)) (fun _ wr => 18 - wr.iterPos (w.heap.size + 1))
    case atStart => exact ⟨0, by omega, hz0, hz1, ((Below.refl _ _).alloc (Nat.le_refl _) _).alloc (by simp) _, fun j hj => by omega⟩
    case round =>
      obtain ⟨pos, hpos, hb0, hb1, hbel, H⟩ := hrel
      clear hz0 hz1
      by_cases hlt : pos < 18
      · have h128 := signs_low pos hlt
        have hnx : ∀ ty, (Instr.next (.pointer (some ⟨w.heap.size + 1, 0, none⟩)) true ty).run Tryz.prog wr = _ := fun ty => run_next_ascii_at (P := Tryz.prog) wr (w.heap.size + 1) signs pos ty hb1 hlt h128
        have hb2 := iterAt_heap wr (w.heap.size + 1) signs pos (pos + 1) hb1
        have hb3 := (iterAt_other wr (w.heap.size + 1) w.heap.size signs (pos + 1) (by omega)).trans hb0
        have hbel2 := below_iterAt hbel (k := w.heap.size + 1) (by omega) signs (pos + 1)
        have hmu : wr.iterPos (w.heap.size + 1) = pos := by simp [World.iterPos, hb1]
        generalize wr.iterAt (w.heap.size + 1) signs (pos + 1) = W1 at hnx hb2 hb3 hbel2
        have HB := hid hb1
        have HB0 := hid hb0
        have HM := hid hmu
        clear hb1 hb0 hmu
        have HB2 := hid hb2
        have HB3 := hid hb3
        clear hb2 hb3
        go_wp2_with (refine wpList_store_blk rfl 139 (.tmp 4) (.tmp 31) rfl 8 info63 w.heap.size 139 _ HB3.out rfl (#[.int .i64 4, .string (s.extract k (k + 1)), .int .u64 0, .int .u64 0, .int .u64 0, .int .u64 0, .int .i64 0, .int .i64 0]) rfl rfl rfl rfl ?_)
        · have he : ((signs[pos]'hlt).toNat : Int) == wrap32 ((s[k]'hk).toNat : Int) := by assumption
          have hsg := signL_yes s k hk hpv'.out pos hlt he
          exact bodyPost_ret (results_cell3 rfl _ _ w.heap.size 139 _ (0, 0) _ rfl (setRow_heap HB3.out _) Tryz.underlying139 rfl info63) rfl ⟨ret_eq (by rw [tokV_ok hsg]; simp [Tok.cells, Se.none, extract_sfx, sfx_cons s k hk]), Below.setRow hbel2 (Nat.le_refl _) _⟩
        · have he : (((signs[pos]'hlt).toNat : Int) == wrap32 ((s[k]'hk).toNat : Int)) = false := by assumption
          go_roundw
          case rel =>
            refine ⟨pos + 1, by omega, HB3.out, HB2.out, hbel2, fun j hj h => ?_⟩
            by_cases hjp : j < pos
            · exact H.out j hjp h
            · obtain rfl : j = pos := by omega
              exact sign_ne he
          case measure =>
            have hmu2 : W1.iterPos (w.heap.size + 1) = pos + 1 := by simp [World.iterPos, HB2.out]
            rw [HM.out, hmu2]
            omega
      · obtain rfl : pos = 18 := by omega
        have hnx : ∀ ty, (Instr.next (.pointer (some ⟨w.heap.size + 1, 0, none⟩)) true ty).run Tryz.prog wr = _ := fun ty => run_next_end_at (P := Tryz.prog) wr (w.heap.size + 1) signs 18 ty hb1 (by decide)
        have HB0 := hid hb0
        clear hb0 hb1
        have hsg := signL_no s k hk hpv'.out (fun j h => H.out j h h)
        go_wp2_with (refine wpList_store_blk rfl 139 (.tmp 4) (.tmp 34) rfl 8 info63 w.heap.size 139 _ HB0.out rfl Tok.zero.cells rfl rfl rfl rfl ?_)
        exact bodyPost_ret (results_cell3 rfl _ _ w.heap.size 139 _ (0, 0) _ rfl (setRow_heap HB0.out _) Tryz.underlying139 rfl info63) rfl ⟨ret_eq (by rw [tokV_bad hsg]; simp [Tok.cells, Tok.zero, Se.none]), Below.setRow hbel (Nat.le_refl _) _⟩
  · have hpv' := hid hpv
    have hk2 : k + 2 ≤ s.size := prefB_two s k hpv
    clear hpv
    go_enter Tryz.func206, Tryz.ntmps206
    go_wp2_with (first | (go_at_call 228; refine (prefix_any _ _ _).mono ?_; rintro e w' ⟨rfl, rfl⟩; rw [hp.out, hpv'.out]))
    have hsg : signL (sfx s k) = .ok (⟨4, [45, 62], Se.none, 0, 0⟩, 2) := by unfold signL; rw [hpv'.out]; rfl
    exact bodyPost_ret (v := tokV k (signL (sfx s k))) (by simp [results, Tryz.results206, go_sem, tokV_ok hsg, Tok.cells, Se.none]) rfl ⟨rfl, (Below.refl _ _).alloc (Nat.le_refl _) _⟩
end Go.Proofs.YtfljcfdfgojdoaaGreatDoor
