/-
  Rows of numbers, sorted, each once: what Clone, Sort, Compact make of a row is sortU. No program in sight.
-/
import Derived.Test.YtfjomnhdmkbkiaaDoorDf1
import Derived.Lib.SlicesCompact
namespace Go.Proofs.YtfjomnhdmkbkiaaDoor.Im
open Go.Lib

theorem mem_insU (x y : Int) : ∀ l : List Int, y ∈ insU x l ↔ y = x ∨ y ∈ l
  | [] => by simp [insU]
  | z :: l => by
    unfold insU
    split
    · simp
    · split
      · rename_i h; subst h; simp
      · rw [List.mem_cons, mem_insU x y l, List.mem_cons]
        constructor
        · rintro (h | h | h)
          · exact .inr (.inl h)
          · exact .inl h
          · exact .inr (.inr h)
        · rintro (h | h | h)
          · exact .inr (.inl h)
          · exact .inl h
          · exact .inr (.inr h)
theorem mem_sortU (y : Int) : ∀ l : List Int, y ∈ sortU l ↔ y ∈ l
  | [] => by simp [sortU]
  | x :: l => by unfold sortU; rw [mem_insU, mem_sortU y l, List.mem_cons]
theorem up_insU (x : Int) : ∀ l : List Int, l.Pairwise (· < ·) → (insU x l).Pairwise (· < ·)
  | [], _ => by simp [insU]
  | z :: l, h => by
    have h1 := (List.pairwise_cons.1 h).1
    have h2 := (List.pairwise_cons.1 h).2
    unfold insU
    split
    · rename_i hx
      refine List.pairwise_cons.2 ⟨fun y hy => ?_, h⟩
      rcases List.mem_cons.1 hy with rfl | hy
      · exact hx
      · have := h1 y hy; omega
    · split
      · exact h
      · rename_i hx hz
        refine List.pairwise_cons.2 ⟨fun y hy => ?_, up_insU x l h2⟩
        rcases (mem_insU x y l).1 hy with rfl | hy
        · omega
        · exact h1 y hy
theorem up_sortU : ∀ l : List Int, (sortU l).Pairwise (· < ·)
  | [] => by simp [sortU]
  | x :: l => up_insU x _ (up_sortU l)
/-- two rows that rise and have the same members are one -/
theorem up_one : ∀ {l m : List Int}, l.Pairwise (· < ·) → m.Pairwise (· < ·) → (∀ x, x ∈ l ↔ x ∈ m) → l = m
  | [], [], _, _, _ => rfl
  | [], y :: m, _, _, h => by have := (h y).2 (by simp); simp at this
  | x :: l, [], _, _, h => by have := (h x).1 (by simp); simp at this
  | x :: l, y :: m, hl, hm, h => by
    have a1 := (List.pairwise_cons.1 hl).1
    have a2 := (List.pairwise_cons.1 hm).1
    have e : x = y := by
      rcases List.mem_cons.1 ((h x).1 (by simp)) with e | hx
      · exact e
      · rcases List.mem_cons.1 ((h y).2 (by simp)) with e | hy
        · exact e.symm
        · have := a1 y hy; have := a2 x hx; omega
    subst e
    rw [up_one (List.pairwise_cons.1 hl).2 (List.pairwise_cons.1 hm).2 fun z => ?_]
    constructor
    · intro hz
      rcases List.mem_cons.1 ((h z).1 (List.mem_cons_of_mem _ hz)) with e | h'
      · have := a1 z hz; omega
      · exact h'
    · intro hz
      rcases List.mem_cons.1 ((h z).2 (List.mem_cons_of_mem _ hz)) with e | h'
      · have := a2 z hz; omega
      · exact h'
theorem compact_snoc (l : List Int) (x : Int) : compact (l ++ [x]) = compact l ++ (if l.getLast? = some x then [] else [x]) := by
  unfold compact
  rw [List.length_append, List.length_singleton, compactUpTo_succ]
  congr 1
  · unfold compactUpTo
    have hk : ∀ j ∈ List.range l.length, keeps (l ++ [x]).toArray j = keeps l.toArray j := by
      intro j hj
      have hj := List.mem_range.1 hj
      have e1 : (l ++ [x]).toArray[j]! = l.toArray[j]! := by simp [List.getElem!_eq_getElem?_getD, List.getElem?_append_left hj]
      have e2 : (l ++ [x]).toArray[j - 1]! = l.toArray[j - 1]! := by simp [List.getElem!_eq_getElem?_getD, List.getElem?_append_left (show j - 1 < l.length by omega)]
      unfold keeps
      rw [e1, e2]
    rw [List.filter_congr hk]
    refine List.map_congr_left fun j hj => ?_
    have hj := List.mem_range.1 (List.mem_filter.1 hj).1
    simp [List.getElem!_eq_getElem?_getD, List.getElem?_append_left hj]
  · have e1 : (l ++ [x]).toArray[l.length]! = x := by simp
    rw [e1]
    have hkp : keeps (l ++ [x]).toArray l.length = true ↔ ¬ l.getLast? = some x := by
      unfold keeps
      rw [decide_eq_true_eq, e1]
      rcases List.eq_nil_or_concat l with rfl | ⟨l', y, rfl⟩
      · simp
      · simp [eq_comm]
    by_cases h : l.getLast? = some x
    · rw [if_pos h, if_neg (fun c => hkp.1 c h)]
    · rw [if_neg h, if_pos (hkp.2 h)]
theorem compact_up : ∀ (n : Nat) (l : List Int), l.length = n → l.Pairwise (· ≤ ·) → (compact l).Pairwise (· < ·) ∧ ∀ x, x ∈ compact l ↔ x ∈ l
  | 0, l, h, _ => by
    obtain rfl := List.length_eq_zero_iff.1 h
    exact ⟨by simp [compact, compactUpTo], fun x => by simp [compact, compactUpTo]⟩
  | n + 1, l, h, hp => by
    rcases List.eq_nil_or_concat l with rfl | ⟨m, y, rfl⟩
    · simp at h
    · rw [List.concat_eq_append] at *
      obtain ⟨hp1, _, hp2⟩ := List.pairwise_append.1 hp
      obtain ⟨i1, i2⟩ := compact_up n m (by simpa using h) hp1
      rw [compact_snoc]
      split
      · rename_i hl
        refine ⟨by simpa using i1, fun x => ?_⟩
        rw [List.append_nil, i2 x, List.mem_append, List.mem_singleton]
        refine ⟨.inl, ?_⟩
        rintro (h | rfl)
        · exact h
        · exact List.mem_of_getLast? hl
      · rename_i hl
        refine ⟨List.pairwise_append.2 ⟨i1, by simp, fun a ha b hb => ?_⟩, fun x => by rw [List.mem_append, i2 x, List.mem_append]⟩
        obtain rfl := List.mem_singleton.1 hb
        have ha' := (i2 a).1 ha
        have h1 := hp2 a ha' b (by simp)
        rcases List.eq_nil_or_concat m with rfl | ⟨m', z, rfl⟩
        · simp at ha'
        · rw [List.concat_eq_append] at *
          have hz : z ≠ b := by intro e; subst e; exact hl (by simp)
          have h2 := hp2 z (by simp) b (by simp)
          have h3 : a ≤ z := by
            rcases List.mem_append.1 ha' with hm | hm
            · exact (List.pairwise_append.1 hp1).2.2 a hm z (by simp)
            · rw [List.mem_singleton.1 hm]; exact Int.le_refl _
          omega
/-- what Clone, Sort, Compact make of a row -/
theorem sort_compact (l : List Int) : compact (l.mergeSort fun x y => decide (x ≤ y)) = sortU l := by
  have hp : (l.mergeSort fun x y => decide (x ≤ y)).Pairwise (· ≤ ·) := by
    have := List.pairwise_mergeSort (le := fun x y : Int => decide (x ≤ y)) (fun a b c => by simp; omega) (fun a b => by simp; omega) l
    exact this.imp (fun h => by simpa using h)
  obtain ⟨h1, h2⟩ := compact_up _ _ rfl hp
  exact up_one h1 (up_sortU l) fun x => by rw [h2, mem_sortU, List.mem_mergeSort]
/-- eight bytes of a number, the least first -/
def eight (n : Int) : List B :=
  let m := (n % 18446744073709551616).toNat
  [UInt8.ofNat m, UInt8.ofNat (m / 256), UInt8.ofNat (m / 65536), UInt8.ofNat (m / 16777216), UInt8.ofNat (m / 4294967296), UInt8.ofNat (m / 1099511627776), UInt8.ofNat (m / 281474976710656), UInt8.ofNat (m / 72057594037927936)]
def keyRow (l : List Int) : List B := l.flatMap eight
theorem ofNat_eq {a b : Nat} (h : UInt8.ofNat a = UInt8.ofNat b) : a % 256 = b % 256 := by
  have := congrArg UInt8.toNat h
  simpa using this
theorem eight_inj {a b : Int} (ha : -9223372036854775808 ≤ a ∧ a < 9223372036854775808) (hb : -9223372036854775808 ≤ b ∧ b < 9223372036854775808) (h : eight a = eight b) : a = b := by
  unfold eight at h
  simp only [List.cons.injEq, and_true] at h
  obtain ⟨h0, h1, h2, h3, h4, h5, h6, h7⟩ := h
  have h0 := ofNat_eq h0
  have h1 := ofNat_eq h1
  have h2 := ofNat_eq h2
  have h3 := ofNat_eq h3
  have h4 := ofNat_eq h4
  have h5 := ofNat_eq h5
  have h6 := ofNat_eq h6
  have h7 := ofNat_eq h7
  have e : (a % 18446744073709551616).toNat = (b % 18446744073709551616).toNat := by
    have ha' : (a % 18446744073709551616).toNat < 18446744073709551616 := by omega
    have hb' : (b % 18446744073709551616).toNat < 18446744073709551616 := by omega
    generalize (a % 18446744073709551616).toNat = x at *
    generalize (b % 18446744073709551616).toNat = y at *
    omega
  omega
theorem eight_len (a : Int) : (eight a).length = 8 := rfl
theorem keyRow_len (l : List Int) : (keyRow l).length = 8 * l.length := by
  induction l with
  | nil => rfl
  | cons x l ih => unfold keyRow at *; rw [List.flatMap_cons, List.length_append, ih, eight_len, List.length_cons]; omega
theorem keyRow_inj : ∀ {l m : List Int}, (∀ x ∈ l, -9223372036854775808 ≤ x ∧ x < 9223372036854775808) → (∀ x ∈ m, -9223372036854775808 ≤ x ∧ x < 9223372036854775808) → keyRow l = keyRow m → l = m
  | [], [], _, _, _ => rfl
  | [], y :: m, _, _, h => by have := congrArg List.length h; rw [keyRow_len, keyRow_len] at this; simp at this
  | x :: l, [], _, _, h => by have := congrArg List.length h; rw [keyRow_len, keyRow_len] at this; simp at this
  | x :: l, y :: m, hl, hm, h => by
    have h' : eight x ++ keyRow l = eight y ++ keyRow m := h
    obtain ⟨h1, h2⟩ := List.append_inj h' rfl
    rw [eight_inj (hl x (by simp)) (hm y (by simp)) h1, keyRow_inj (fun z hz => hl z (by simp [hz])) (fun z hz => hm z (by simp [hz])) h2]
end Go.Proofs.YtfjomnhdmkbkiaaDoor.Im
