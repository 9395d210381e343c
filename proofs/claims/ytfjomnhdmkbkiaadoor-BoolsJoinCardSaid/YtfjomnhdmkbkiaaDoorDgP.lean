/-
  Sets as words: a bit added to a word that lacks it; two sets with the same bytes are one set. No program in sight.
-/
import Derived.Test.YtfjomnhdmkbkiaaDoorDf3
namespace Go.Proofs.YtfjomnhdmkbkiaaDoor.Im

theorem add_bit (w m j : Nat) (h : w / 2 ^ m % 2 = 0) : (w + 2 ^ m) / 2 ^ j % 2 = if j = m then 1 else w / 2 ^ j % 2 := by
  have hp : 0 < 2 ^ m := Nat.pow_pos (by decide)
  have e0 : (w + 2 ^ m) / 2 ^ m = w / 2 ^ m + 1 := Nat.add_div_right w hp
  rcases Nat.lt_trichotomy j m with hl | rfl | hl
  · rw [if_neg (by omega)]
    obtain ⟨c, rfl⟩ : ∃ c, m = j + 1 + c := ⟨m - j - 1, by omega⟩
    have hj : 0 < 2 ^ j := Nat.pow_pos (by decide)
    have e1 : 2 ^ (j + 1 + c) = 2 ^ j * (2 * 2 ^ c) := by rw [Nat.pow_add, Nat.pow_succ, Nat.mul_assoc]
    rw [e1, Nat.add_mul_div_left _ _ hj]
    omega
  · rw [if_pos rfl, e0]; omega
  · rw [if_neg (by omega)]
    obtain ⟨c, rfl⟩ : ∃ c, j = m + 1 + c := ⟨j - m - 1, by omega⟩
    have e1 : 2 ^ (m + 1 + c) = 2 ^ m * 2 * 2 ^ c := by rw [Nat.pow_add, Nat.pow_succ]
    rw [e1, ← Nat.div_div_eq_div_mul, ← Nat.div_div_eq_div_mul, ← Nat.div_div_eq_div_mul, ← Nat.div_div_eq_div_mul, e0]
    congr 2
    omega
theorem add_lt {w m : Nat} (h : w / 2 ^ m % 2 = 0) (hm : m < 64) (hw : w < 2 ^ 64) : w + 2 ^ m < 2 ^ 64 := by
  have hp : 0 < 2 ^ m := Nat.pow_pos (by decide)
  obtain ⟨c, hc⟩ : ∃ c, 64 = m + 1 + c := ⟨63 - m, by omega⟩
  have e1 : 2 ^ 64 = 2 ^ m * (2 * 2 ^ c) := by rw [hc, Nat.pow_add, Nat.pow_succ, Nat.mul_assoc]
  have h1 : w / 2 ^ m < 2 * 2 ^ c := by
    rw [Nat.div_lt_iff_lt_mul hp, Nat.mul_comm, ← e1]; exact hw
  have h2 : w / 2 ^ m + 1 < 2 * 2 ^ c := by omega
  have h3 : (w + 2 ^ m) / 2 ^ m < 2 * 2 ^ c := by rw [Nat.add_div_right w hp]; exact h2
  rw [Nat.div_lt_iff_lt_mul hp, Nat.mul_comm, ← e1] at h3
  exact h3
/-- two to some number, as it is reckoned -/
def pwR : Nat → Int
  | 0 => 1
  | n + 1 => IntKind.u64.wrap (2 * pwR n)
theorem pwR_eq : ∀ (m : Nat), m < 64 → pwR m = ((2 ^ m : Nat) : Int)
  | 0, _ => rfl
  | m + 1, h => by
    have h1 : 2 ^ (m + 1) < 2 ^ 64 := Nat.pow_lt_pow_right (by decide) h
    rw [pwR, pwR_eq m (by omega), show (2 : Int) * ((2 ^ m : Nat) : Int) = ((2 ^ (m + 1) : Nat) : Int) by rw [Nat.pow_succ]; omega]
    exact wrap_u64 _ (by omega)
theorem word_add {x : Int} (hx : wOk x) {m : Nat} (hm : m < 64) (h : decide (x / 2 ^ m % 2 = 1) = false) :
    wOk (IntKind.u64.wrap (x + pwR m)) ∧ ∀ j, decide (IntKind.u64.wrap (x + pwR m) / 2 ^ j % 2 = 1) = (decide (x / 2 ^ j % 2 = 1) || decide (j = m)) := by
  obtain ⟨w, rfl⟩ := Int.eq_ofNat_of_zero_le hx.1
  have hw : w < 2 ^ 64 := by have := hx.2; omega
  have cast : ∀ (y j : Nat), ((y : Int) / 2 ^ j % 2 = 1) = (y / 2 ^ j % 2 = 1) := fun y j => by
    have e : (y : Int) / 2 ^ j % 2 = ((y / 2 ^ j % 2 : Nat) : Int) := by norm_cast
    rw [e]
    exact propext ⟨fun h => by omega, fun h => by omega⟩
  have h0 : w / 2 ^ m % 2 = 0 := by
    have h1 := of_decide_eq_false h
    rw [cast] at h1
    omega
  have hlt := add_lt h0 hm hw
  have e : IntKind.u64.wrap ((w : Int) + pwR m) = ((w + 2 ^ m : Nat) : Int) := by
    rw [pwR_eq m hm, ← Int.natCast_add]
    exact wrap_u64 _ (by omega)
  have hab := fun j => add_bit w m j h0
  generalize w + 2 ^ m = N at *
  rw [e]
  refine ⟨⟨by omega, by omega⟩, fun j => ?_⟩
  rw [← Bool.decide_or]
  refine decide_eq_decide.2 ?_
  rw [cast, cast, hab j]
  by_cases hj : j = m
  · simp [hj]
  · simp [hj]
theorem word_same {x y : Int} (hx : wOk x) (hy : wOk y) (h : ∀ j, j < 64 → decide (x / 2 ^ j % 2 = 1) = decide (y / 2 ^ j % 2 = 1)) : x = y := by
  obtain ⟨a, rfl⟩ := Int.eq_ofNat_of_zero_le hx.1
  obtain ⟨b, rfl⟩ := Int.eq_ofNat_of_zero_le hy.1
  have ha : a < 2 ^ 64 := by have := hx.2; omega
  have hb : b < 2 ^ 64 := by have := hy.2; omega
  have cast : ∀ (y j : Nat), ((y : Int) / 2 ^ j % 2 = 1) = (y / 2 ^ j % 2 = 1) := fun y j => by
    have e : (y : Int) / 2 ^ j % 2 = ((y / 2 ^ j % 2 : Nat) : Int) := by norm_cast
    rw [e]
    exact propext ⟨fun h => by omega, fun h => by omega⟩
  congr 1
  refine Nat.eq_of_testBit_eq fun j => ?_
  by_cases hj : j < 64
  · have := h j hj
    rw [decide_eq_decide, cast, cast] at this
    rw [Nat.testBit_eq_decide_div_mod_eq, Nat.testBit_eq_decide_div_mod_eq]
    exact decide_eq_decide.2 this
  · have h2 : 2 ^ 64 ≤ 2 ^ j := Nat.pow_le_pow_right (by decide) (by omega)
    rw [Nat.testBit_lt_two_pow (by omega), Nat.testBit_lt_two_pow (by omega)]
/-- two sets with the same bytes are one set -/
theorem Se.same {s t : Se} (hs : s.ok) (ht : t.ok) (h : ∀ x, x < 256 → hasS s x = hasS t x) : s = t := by
  have key : ∀ k, k < 4 → ∀ j, j < 64 → decide (wordS s k / 2 ^ j % 2 = 1) = decide (wordS t k / 2 ^ j % 2 = 1) := fun k hk j hj => by
    have := h (k * 64 + j) (by omega)
    unfold hasS at this
    rw [show (k * 64 + j) / 64 = k by omega, show (k * 64 + j) % 64 = j by omega] at this
    exact this
  have e0 := word_same hs.a ht.a (key 0 (by decide))
  have e1 := word_same hs.b ht.b (key 1 (by decide))
  have e2 := word_same hs.c ht.c (key 2 (by decide))
  have e3 := word_same hs.d ht.d (key 3 (by decide))
  obtain ⟨a, b, c, d⟩ := s
  obtain ⟨a', b', c', d'⟩ := t
  simp only at e0 e1 e2 e3
  rw [e0, e1, e2, e3]
/-- a set under construction: just the bytes below k that are asked for -/
structure MakeAt (l : List Bool) (k : Nat) (s : Se) : Prop where
  ok : s.ok
  has : ∀ x, x < 256 → hasS s x = (decide (x < k) && l.getD x false)
theorem MakeAt.start (l : List Bool) : MakeAt l 0 Se.none := ⟨Se.ok_none, fun x _ => by rw [has_none]; simp⟩
theorem MakeAt.no {l : List Bool} {k : Nat} {s : Se} (h : MakeAt l k s) (hb : l.getD k false = false) : MakeAt l (k + 1) s :=
  ⟨h.ok, fun x hx => by
    rw [h.has x hx]
    by_cases e : x = k
    · subst e; rw [hb]; simp
    · congr 1
      exact decide_eq_decide.2 (by omega)⟩
def addS (s : Se) (k : Nat) : Se :=
  if k / 64 = 0 then ⟨IntKind.u64.wrap (s.a + pwR (k % 64)), s.b, s.c, s.d⟩
  else if k / 64 = 1 then ⟨s.a, IntKind.u64.wrap (s.b + pwR (k % 64)), s.c, s.d⟩
  else if k / 64 = 2 then ⟨s.a, s.b, IntKind.u64.wrap (s.c + pwR (k % 64)), s.d⟩
  else ⟨s.a, s.b, s.c, IntKind.u64.wrap (s.d + pwR (k % 64))⟩
theorem addS_has {s : Se} (hs : s.ok) {k : Nat} (hk : k < 256) (h : hasS s k = false) : (addS s k).ok ∧ ∀ x, x < 256 → hasS (addS s k) x = (hasS s x || decide (x = k)) := by
  have hm : k % 64 < 64 := Nat.mod_lt _ (by decide)
  have hcase : k / 64 = 0 ∨ k / 64 = 1 ∨ k / 64 = 2 ∨ k / 64 = 3 := by omega
  unfold hasS at h
  have fin : ∀ x : Nat, x / 64 ≠ k / 64 → (x = k) = False := fun x hx => propext ⟨fun e => hx (by rw [e]), False.elim⟩
  have eqm : ∀ x : Nat, x / 64 = k / 64 → (x % 64 = k % 64) = (x = k) := fun x hx => propext ⟨fun e => by omega, fun e => by rw [e]⟩
  rcases hcase with hq | hq | hq | hq
  · rw [hq] at h
    obtain ⟨h1, h2⟩ := word_add hs.a hm h
    have ea : addS s k = ⟨IntKind.u64.wrap (s.a + pwR (k % 64)), s.b, s.c, s.d⟩ := by unfold addS; rw [if_pos hq]
    rw [ea]
    refine ⟨⟨h1, hs.b, hs.c, hs.d⟩, fun x hx => ?_⟩
    unfold hasS wordS
    by_cases hx0 : x / 64 = 0
    · rw [if_pos hx0, if_pos hx0, h2, ← decide_eq_decide.2 (Iff.of_eq (eqm x (by omega)))]
    · rw [if_neg hx0, if_neg hx0, (decide_eq_false (fun e => by subst e; exact hx0 hq) : decide (x = k) = false), Bool.or_false]
  · rw [hq] at h
    obtain ⟨h1, h2⟩ := word_add hs.b hm h
    have ea : addS s k = ⟨s.a, IntKind.u64.wrap (s.b + pwR (k % 64)), s.c, s.d⟩ := by unfold addS; rw [if_neg (by omega), if_pos hq]
    rw [ea]
    refine ⟨⟨hs.a, h1, hs.c, hs.d⟩, fun x hx => ?_⟩
    unfold hasS wordS
    by_cases hx0 : x / 64 = 1
    · rw [if_neg (by omega), if_pos hx0, if_neg (by omega), if_pos hx0, h2, ← decide_eq_decide.2 (Iff.of_eq (eqm x (by omega)))]
    · rw [(decide_eq_false (fun e => by subst e; exact hx0 hq) : decide (x = k) = false), Bool.or_false, if_neg hx0, if_neg hx0]
  · rw [hq] at h
    obtain ⟨h1, h2⟩ := word_add hs.c hm h
    have ea : addS s k = ⟨s.a, s.b, IntKind.u64.wrap (s.c + pwR (k % 64)), s.d⟩ := by unfold addS; rw [if_neg (by omega), if_neg (by omega), if_pos hq]
    rw [ea]
    refine ⟨⟨hs.a, hs.b, h1, hs.d⟩, fun x hx => ?_⟩
    unfold hasS wordS
    by_cases hx0 : x / 64 = 2
    · rw [if_neg (by omega), if_neg (by omega), if_pos hx0, if_neg (by omega), if_neg (by omega), if_pos hx0, h2, ← decide_eq_decide.2 (Iff.of_eq (eqm x (by omega)))]
    · rw [(decide_eq_false (fun e => by subst e; exact hx0 hq) : decide (x = k) = false), Bool.or_false, if_neg hx0, if_neg hx0]
  · rw [hq] at h
    obtain ⟨h1, h2⟩ := word_add hs.d hm h
    have ea : addS s k = ⟨s.a, s.b, s.c, IntKind.u64.wrap (s.d + pwR (k % 64))⟩ := by unfold addS; rw [if_neg (by omega), if_neg (by omega), if_neg (by omega)]
    rw [ea]
    refine ⟨⟨hs.a, hs.b, hs.c, h1⟩, fun x hx => ?_⟩
    unfold hasS wordS
    by_cases hx0 : x / 64 = 3
    · rw [if_neg (by omega), if_neg (by omega), if_neg (by omega), if_neg (by omega), if_neg (by omega), if_neg (by omega), h2, ← decide_eq_decide.2 (Iff.of_eq (eqm x (by omega)))]
    · have hx3 : x / 64 = 0 ∨ x / 64 = 1 ∨ x / 64 = 2 := by omega
      rw [(decide_eq_false (fun e => by subst e; exact hx0 hq) : decide (x = k) = false), Bool.or_false]
      rcases hx3 with e | e | e <;> simp [e]
theorem MakeAt.yes {l : List Bool} {k : Nat} {s : Se} (h : MakeAt l k s) (hk : k < 256) (hb : l.getD k false = true) : MakeAt l (k + 1) (addS s k) := by
  have h0 : hasS s k = false := by rw [h.has k hk]; simp
  obtain ⟨h1, h2⟩ := addS_has h.ok hk h0
  refine ⟨h1, fun x hx => ?_⟩
  rw [h2 x hx, h.has x hx]
  by_cases e : x = k
  · subst e
    rw [hb, (decide_eq_true rfl : decide (x = x) = true), Bool.or_true, (decide_eq_true (Nat.lt_succ_self x) : decide (x < x + 1) = true)]
    rfl
  · rw [decide_eq_false e, Bool.or_false]
    congr 1
    exact decide_eq_decide.2 (by omega)
end Go.Proofs.YtfjomnhdmkbkiaaDoor.Im
