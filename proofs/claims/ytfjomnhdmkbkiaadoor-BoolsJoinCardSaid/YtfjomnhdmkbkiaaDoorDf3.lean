/-
  Sets of bytes as four words: which bytes are in a set of one byte, in two sets together. No program in sight.
-/
import Derived.Test.YtfjomnhdmkbkiaaDoorDf1
namespace Go.Proofs.YtfjomnhdmkbkiaaDoor.Im
open Go.Lib

/-- a word of a set -/
def wOk (x : Int) : Prop := 0 ≤ x ∧ x < 18446744073709551616
structure Se.ok (s : Se) : Prop where
  a : wOk s.a
  b : wOk s.b
  c : wOk s.c
  d : wOk s.d
theorem wrap_u64 (x : Nat) (h : x < 18446744073709551616) : IntKind.u64.wrap (x : Int) = x := by
  show (x : Int) % (2 ^ 64 : Int) = x
  omega
theorem or_u64 (x y : Nat) (hx : x < 18446744073709551616) (hy : y < 18446744073709551616) : bits .or .u64 (x : Int) (y : Int) = ((x ||| y : Nat) : Int) := by
  have hz : x ||| y < 2 ^ 64 := Nat.or_lt_two_pow (by omega) (by omega)
  have h1 : (BitVec.ofInt 64 (x : Int)).toNat = x := by
    rw [BitVec.ofInt_natCast, BitVec.toNat_ofNat]; exact Nat.mod_eq_of_lt (by omega)
  have h2 : (BitVec.ofInt 64 (y : Int)).toNat = y := by
    rw [BitVec.ofInt_natCast, BitVec.toNat_ofNat]; exact Nat.mod_eq_of_lt (by omega)
  show IntKind.u64.wrap ((BitVec.ofInt 64 (x : Int) ||| BitVec.ofInt 64 (y : Int)).toNat : Int) = _
  rw [BitVec.toNat_or, h1, h2]
  exact wrap_u64 _ (by omega)
theorem wOk_or {x y : Int} (hx : wOk x) (hy : wOk y) : wOk (bits .or .u64 x y) := by
  obtain ⟨m, rfl⟩ := Int.eq_ofNat_of_zero_le hx.1
  obtain ⟨n, rfl⟩ := Int.eq_ofNat_of_zero_le hy.1
  have hm := hx.2
  have hn := hy.2
  rw [or_u64 m n (by omega) (by omega)]
  have : m ||| n < 2 ^ 64 := Nat.or_lt_two_pow (by omega) (by omega)
  exact ⟨by omega, by omega⟩
theorem bit_nat (m k : Nat) : decide ((m : Int) / 2 ^ k % 2 = 1) = m.testBit k := by
  rw [Nat.testBit_eq_decide_div_mod_eq]
  have e : ((m : Int) / 2 ^ k % 2) = ((m / 2 ^ k % 2 : Nat) : Int) := by
    rw [Int.natCast_emod, Int.natCast_ediv]; simp
  rw [e]
  exact decide_eq_decide.2 (by omega)
theorem bit_or {x y : Int} (hx : wOk x) (hy : wOk y) (k : Nat) : decide (bits .or .u64 x y / 2 ^ k % 2 = 1) = (decide (x / 2 ^ k % 2 = 1) || decide (y / 2 ^ k % 2 = 1)) := by
  obtain ⟨m, rfl⟩ := Int.eq_ofNat_of_zero_le hx.1
  obtain ⟨n, rfl⟩ := Int.eq_ofNat_of_zero_le hy.1
  have hm := hx.2
  have hn := hy.2
  rw [or_u64 m n (by omega) (by omega), bit_nat, bit_nat, bit_nat, Nat.testBit_or]
theorem wOk_none : wOk 0 := ⟨by decide, by decide⟩
theorem Se.ok_none : Se.none.ok := ⟨wOk_none, wOk_none, wOk_none, wOk_none⟩
theorem Se.ok.any {s t : Se} (hs : s.ok) (ht : t.ok) : (anyS s t).ok := ⟨wOk_or hs.a ht.a, wOk_or hs.b ht.b, wOk_or hs.c ht.c, wOk_or hs.d ht.d⟩
theorem has_any {s t : Se} (hs : s.ok) (ht : t.ok) (b : Nat) : hasS (anyS s t) b = (hasS s b || hasS t b) := by
  unfold hasS wordS anyS
  split
  · exact bit_or hs.a ht.a _
  · split
    · exact bit_or hs.b ht.b _
    · split
      · exact bit_or hs.c ht.c _
      · exact bit_or hs.d ht.d _
theorem one_eq {k : Nat} (hk : k < 64) : bits .or .u64 0 (IntKind.u64.wrap (2 ^ k)) = ((2 ^ k : Nat) : Int) := by
  have h1 : 2 ^ k < 2 ^ 64 := Nat.pow_lt_pow_right (by decide) hk
  have e : ((2 : Int) ^ k) = ((2 ^ k : Nat) : Int) := by simp
  rw [e, wrap_u64 _ (by omega)]
  have := or_u64 0 (2 ^ k) (by decide) (by omega)
  simpa using this
theorem wOk_one {k : Nat} (hk : k < 64) : wOk ((2 ^ k : Nat) : Int) := by
  have h1 : 2 ^ k < 2 ^ 64 := Nat.pow_lt_pow_right (by decide) hk
  generalize 2 ^ k = m at h1 ⊢
  exact ⟨by omega, by omega⟩
theorem orBit_none (n : Nat) : orBit Se.none n = (if n / 64 = 0 then ⟨((2 ^ (n % 64) : Nat) : Int), 0, 0, 0⟩ else if n / 64 = 1 then ⟨0, ((2 ^ (n % 64) : Nat) : Int), 0, 0⟩ else if n / 64 = 2 then ⟨0, 0, ((2 ^ (n % 64) : Nat) : Int), 0⟩ else ⟨0, 0, 0, ((2 ^ (n % 64) : Nat) : Int)⟩) := by
  have h := one_eq (Nat.mod_lt n (by decide : 0 < 64))
  unfold orBit Se.none
  simp only [h]
theorem Se.ok_one (n : Nat) : (orBit Se.none n).ok := by
  have h := wOk_one (Nat.mod_lt n (by decide : 0 < 64))
  rw [orBit_none]
  split
  · exact ⟨h, wOk_none, wOk_none, wOk_none⟩
  · split
    · exact ⟨wOk_none, h, wOk_none, wOk_none⟩
    · split
      · exact ⟨wOk_none, wOk_none, h, wOk_none⟩
      · exact ⟨wOk_none, wOk_none, wOk_none, h⟩
theorem bit_zero (k : Nat) : decide ((0 : Int) / 2 ^ k % 2 = 1) = false := by simp
theorem has_none (b : Nat) : hasS Se.none b = false := by
  unfold hasS wordS Se.none
  split
  · exact bit_zero _
  · split
    · exact bit_zero _
    · split <;> exact bit_zero _
theorem has_one {n b : Nat} (hn : n < 256) (hb : b < 256) : hasS (orBit Se.none n) b = decide (b = n) := by
  rw [orBit_none]
  have h2 : ∀ k j : Nat, decide (((2 ^ k : Nat) : Int) / 2 ^ j % 2 = 1) = decide (j = k) := fun k j => by
    rw [bit_nat, Nat.testBit_two_pow]; exact decide_eq_decide.2 eq_comm
  unfold hasS wordS
  obtain h | h | h | h : n / 64 = 0 ∨ n / 64 = 1 ∨ n / 64 = 2 ∨ n / 64 = 3 := by omega
  all_goals
    obtain g | g | g | g : b / 64 = 0 ∨ b / 64 = 1 ∨ b / 64 = 2 ∨ b / 64 = 3 := by omega
    all_goals
      simp only [h, g, if_true, if_false, Nat.reduceEqDiff, bit_zero, h2]
      first
      | exact decide_eq_decide.2 (by omega)
      | exact (decide_eq_false (by omega)).symm
end Go.Proofs.YtfjomnhdmkbkiaaDoor.Im
