/-
  The contract of set.Has.
-/
import Derived.Test.YtfjomnhdmkbkiaaDoorDf3
namespace Go.Proofs.YtfjomnhdmkbkiaaDoor.Im
open Go.RowKit Go.Lib

theorem and_one (y : Int) : bits .and .u64 y 1 = y % 2 := by
  have h1 : (BitVec.ofInt 64 (1 : Int)).toNat = 1 := by decide
  have h2 : (BitVec.ofInt 64 y).toNat = (y % 18446744073709551616).toNat := by
    rw [BitVec.toNat_ofInt]; rfl
  show IntKind.u64.wrap ((BitVec.ofInt 64 y &&& BitVec.ofInt 64 (1 : Int)).toNat : Int) = _
  rw [BitVec.toNat_and, h1, h2, Nat.and_one_is_mod, wrap_u64 _ (by omega)]
  omega
theorem and_one_eq (y : Int) : (bits .and .u64 y 1 == 1) = decide (y % 2 = 1) := by
  rw [and_one]
  by_cases h : y % 2 = 1 <;> simp [h]
set_option maxHeartbeats 1000000 in
theorem has_any_c (s : Se) (c : B) (w : World) :
    Calls Tryd.prog 63 #[s.v, .int .u8 c.toNat] w fun e w' => e = .returned (.bool (hasS s c.toNat)) ∧ Below w.heap.size w w' := by
  have hc := c.toNat_lt
  obtain ⟨x0, x1, x2, x3⟩ := s
  have hcase : c.toNat / 64 = 0 ∨ c.toNat / 64 = 1 ∨ c.toNat / 64 = 2 ∨ c.toNat / 64 = 3 := by omega
  rcases hcase with hq | hq | hq | hq
  all_goals
    have hq' : (c.toNat : Int) / 64 = _ := (by omega : _ = ((c.toNat / 64 : Nat) : Int)).trans (congrArg _ hq)
    simp only [Int.cast_ofNat_Int] at hq'
    have HQ := hid hq
    clear hq
    go_enter Tryd.func63, Tryd.ntmps63
    go_wp2
    go_ret
    refine ⟨?_, ?_⟩
    · simp [hasS, wordS, HQ.out, and_one_eq]
    · exact (Below.refl _ _).alloc (Nat.le_refl _) _
end Go.Proofs.YtfjomnhdmkbkiaaDoor.Im
