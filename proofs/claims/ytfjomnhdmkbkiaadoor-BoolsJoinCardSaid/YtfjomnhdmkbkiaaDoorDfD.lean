/-
  The least byte of a set by its words: the first word that is not nought, and its lowest bit.
-/
import Derived.Test.YtfjomnhdmkbkiaaDoorDf4
import Derived.Lib.TrailingZeros
namespace Go.Proofs.YtfjomnhdmkbkiaaDoor.Im
open Go.Lib

def firstW (s : Se) : Option Nat :=
  if s.a ≠ 0 then some (Lib.ctz 64 s.a.toNat) else if s.b ≠ 0 then some (64 + Lib.ctz 64 s.b.toNat) else if s.c ≠ 0 then some (128 + Lib.ctz 64 s.c.toNat) else if s.d ≠ 0 then some (192 + Lib.ctz 64 s.d.toNat) else none
theorem ctz_lt (x : Nat) (hx : x ≠ 0) (hl : x < 18446744073709551616) : Lib.ctz 64 x < 64 := (Lib.lowest_bit 64 x hx hl).2
theorem ctz_bit {x : Int} (h : wOk x) (hx : x ≠ 0) : decide (x / 2 ^ (Lib.ctz 64 x.toNat) % 2 = 1) = true ∧ ∀ j, j < Lib.ctz 64 x.toNat → decide (x / 2 ^ j % 2 = 1) = false := by
  obtain ⟨n, rfl⟩ := Int.eq_ofNat_of_zero_le h.1
  have h2 := h.2
  rw [Int.toNat_natCast]
  have hn : 0 < n := by omega
  obtain ⟨m, hm, _⟩ := Lib.ctzFrom_spec 64 n hn (by omega)
  have e : Lib.ctz 64 n = Lib.ctzFrom 64 n := by unfold Lib.ctz; rw [if_neg (by omega)]
  rw [e]
  generalize Lib.ctzFrom 64 n = k at hm
  subst hm
  refine ⟨?_, fun j hj => ?_⟩
  · rw [bit_nat, Nat.testBit_two_pow_mul]
    simp [Nat.testBit_zero]
  · rw [bit_nat, Nat.testBit_two_pow_mul]
    simp; omega
theorem firstW_eq {s : Se} (hs : s.ok) : firstW s = firstS s := by
  have low : ∀ y, hasS s y = true → y < 256 → (∀ x, x < y → hasS s x = false) → firstS s = some y := fun y h1 h2 h3 => firstFrom_at s y h1 256 0 (Nat.zero_le _) (by omega) fun x _ hx => h3 x hx
  have z0 : ∀ k : Nat, decide ((0 : Int) / 2 ^ k % 2 = 1) = false := bit_zero
  unfold firstW
  split
  · rename_i h
    obtain ⟨h1, h2⟩ := ctz_bit hs.a h
    have hl := ctz_lt s.a.toNat (by have := hs.a.1; omega) (by have := hs.a.2; have := hs.a.1; omega)
    generalize Lib.ctz 64 s.a.toNat = k at h1 h2 hl
    refine (low k ?_ (by omega) fun x hx => ?_).symm
    · unfold hasS wordS; rw [if_pos (by omega), Nat.mod_eq_of_lt hl]; exact h1
    · unfold hasS wordS; rw [if_pos (by omega), Nat.mod_eq_of_lt (by omega)]; exact h2 x hx
  · rename_i ha
    have ha : s.a = 0 := by simpa using ha
    split
    · rename_i h
      obtain ⟨h1, h2⟩ := ctz_bit hs.b h
      have hl := ctz_lt s.b.toNat (by have := hs.b.1; omega) (by have := hs.b.2; have := hs.b.1; omega)
      generalize Lib.ctz 64 s.b.toNat = k at h1 h2 hl
      refine (low (64 + k) ?_ (by omega) fun x hx => ?_).symm
      · unfold hasS wordS; rw [if_neg (by omega), if_pos (by omega), show (64 + k) % 64 = k by omega]; exact h1
      · unfold hasS wordS
        by_cases hx1 : x / 64 = 0
        · rw [if_pos hx1, ha]; exact z0 _
        · rw [if_neg hx1, if_pos (by omega)]; exact h2 _ (by omega)
    · rename_i hb
      have hb : s.b = 0 := by simpa using hb
      split
      · rename_i h
        obtain ⟨h1, h2⟩ := ctz_bit hs.c h
        have hl := ctz_lt s.c.toNat (by have := hs.c.1; omega) (by have := hs.c.2; have := hs.c.1; omega)
        generalize Lib.ctz 64 s.c.toNat = k at h1 h2 hl
        refine (low (128 + k) ?_ (by omega) fun x hx => ?_).symm
        · unfold hasS wordS; rw [if_neg (by omega), if_neg (by omega), if_pos (by omega), show (128 + k) % 64 = k by omega]; exact h1
        · unfold hasS wordS
          by_cases hx1 : x / 64 = 0
          · rw [if_pos hx1, ha]; exact z0 _
          · rw [if_neg hx1]
            by_cases hx2 : x / 64 = 1
            · rw [if_pos hx2, hb]; exact z0 _
            · rw [if_neg hx2, if_pos (by omega)]; exact h2 _ (by omega)
      · rename_i hc
        have hc : s.c = 0 := by simpa using hc
        split
        · rename_i h
          obtain ⟨h1, h2⟩ := ctz_bit hs.d h
          have hl := ctz_lt s.d.toNat (by have := hs.d.1; omega) (by have := hs.d.2; have := hs.d.1; omega)
          generalize Lib.ctz 64 s.d.toNat = k at h1 h2 hl
          refine (low (192 + k) ?_ (by omega) fun x hx => ?_).symm
          · unfold hasS wordS; rw [if_neg (by omega), if_neg (by omega), if_neg (by omega), show (192 + k) % 64 = k by omega]; exact h1
          · unfold hasS wordS
            by_cases hx1 : x / 64 = 0
            · rw [if_pos hx1, ha]; exact z0 _
            · rw [if_neg hx1]
              by_cases hx2 : x / 64 = 1
              · rw [if_pos hx2, hb]; exact z0 _
              · rw [if_neg hx2]
                by_cases hx3 : x / 64 = 2
                · rw [if_pos hx3, hc]; exact z0 _
                · rw [if_neg hx3]; exact h2 _ (by omega)
        · rename_i hd
          have hd : s.d = 0 := by simpa using hd
          have e : s = Se.none := by obtain ⟨a, b, c, d⟩ := s; simp only at ha hb hc hd; rw [ha, hb, hc, hd]; rfl
          have : ∀ k b, firstFrom s k b = none := by
            intro k
            induction k with
            | zero => intro b; rfl
            | succ k ih => intro b; unfold firstFrom; rw [e, has_none]; rw [← e]; exact ih _
          exact (this _ _).symm
end Go.Proofs.YtfjomnhdmkbkiaaDoor.Im
