/-
  What the parser makes of files: faults, the same tokens elsewhere, two files, items of one expression; no program in sight.
-/
import Derived.Test.YtfljcfdfgojdoaaGreatDoorAa17
import Derived.Test.YtfljcfdfgojdoaaGreatDoorAa49
namespace Go.Proofs.YtfljcfdfgojdoaaGreatDoor
open Go.Lib

def PErrX {α : Type} (L : Nat) (D : Nat → Prop) (part : Nat → Nat → RX α) : Prop :=
  ∀ a dep, a ≤ L → dep ≤ 32 → D dep → match part a dep with | .error (_, y) => y = 4 ∨ y = 8 | .ok (_, a1) => a < a1 ∧ a1 ≤ L
theorem PErrX.bad {α : Type} {L : Nat} {D : Nat → Prop} {part : Nat → Nat → RX α} (h : PErrX L D part) {a dep : Nat} (ha : a ≤ L) (hd : dep ≤ 32) (hD : D dep) {p y : Int} (hx : part a dep = .error (p, y)) : y = 4 ∨ y = 8 := by
  have := h a dep ha hd hD; rw [hx] at this; exact this
theorem PErrX.good {α : Type} {L : Nat} {D : Nat → Prop} {part : Nat → Nat → RX α} (h : PErrX L D part) {a dep : Nat} (ha : a ≤ L) (hd : dep ≤ 32) (hD : D dep) {r : α} {a1 : Nat} (hx : part a dep = .ok (r, a1)) : a < a1 ∧ a1 ≤ L := by
  have := h a dep ha hd hD; rw [hx] at this; exact this
theorem PErrX.mk {α : Type} {L : Nat} {D : Nat → Prop} {part : Nat → Nat → RX α} (h1 : ∀ a dep p y, a ≤ L → dep ≤ 32 → D dep → part a dep = .error (p, y) → y = 4 ∨ y = 8) (h2 : ∀ a dep r a1, a ≤ L → dep ≤ 32 → D dep → part a dep = .ok (r, a1) → a < a1 ∧ a1 ≤ L) : PErrX L D part := by
  intro a dep ha hd hD
  rcases hx : part a dep with ⟨p, y⟩ | ⟨r, a1⟩
  · exact h1 a dep p y ha hd hD hx
  · exact h2 a dep r a1 ha hd hD hx
section
variable {T : List Tok} {L : Nat} (hL : (tokAt T L).kind = 0)
include hL
theorem matom_perr {D : Nat → Prop} {alt : Nat → Nat → RX Mp} (ha0 : PErrX L D alt) : PErrX L (fun d => D (d + 1)) (mAtomM alt T) := by
  refine PErrX.mk (fun a dep p y ha hd hD h => ?_) (fun a dep r a1 ha hd hD h => ?_)
  · unfold mAtomM at h
    split at h
    · rename_i h1
      have hl := tkLt hL ha (isB_kind h1)
      split at h
      · cases h; exact .inr rfl
      · rcases h2 : alt (a + 1) (dep + 1) with ⟨p', y'⟩ | ⟨r', a'⟩
        · rw [h2] at h; cases h; exact ha0.bad hl (by omega) hD h2
        · rw [h2] at h
          simp only at h
          split at h
          · cases h
          · cases h; exact .inl rfl
    · rcases h2 : leafM notNone T a with ⟨p', y'⟩ | ⟨r', a'⟩
      · rw [h2] at h; cases h; exact (leaf_perr hL notNone).bad (dep := dep) ha hd trivial h2
      · rw [h2] at h
        simp only at h
        split at h
        · split at h
          · cases h; exact .inl rfl
          · cases h
        · cases h
  · unfold mAtomM at h
    split at h
    · rename_i h1
      have hl := tkLt hL ha (isB_kind h1)
      split at h
      · cases h
      · rcases h2 : alt (a + 1) (dep + 1) with ⟨p', y'⟩ | ⟨r', a'⟩
        · rw [h2] at h; cases h
        · rw [h2] at h
          simp only at h
          obtain ⟨g1, g2⟩ := ha0.good hl (by omega) hD h2
          split at h
          · rename_i h3
            cases h
            exact ⟨by omega, tkLt hL g2 (isB_kind h3)⟩
          · cases h
    · rcases h2 : leafM notNone T a with ⟨p', y'⟩ | ⟨r', a'⟩
      · rw [h2] at h; cases h
      · rw [h2] at h
        simp only at h
        obtain ⟨g1, g2⟩ := (leaf_perr hL notNone).good (dep := dep) ha hd trivial h2
        split at h
        · rename_i h3
          have hl := tkLt hL g2 (isB_kind h3)
          split at h
          · cases h
          · rename_i h4
            have hk : (tokAt T (a' + 1)).kind = 2 := by simpa using h4
            cases h
            exact ⟨by omega, tkLt hL hl (by rw [hk]; decide)⟩
        · cases h; exact ⟨g1, g2⟩
theorem mrep_perr {D : Nat → Prop} {atom : Nat → Nat → RX Mp} (ha0 : PErrX L D atom) : PErrX L D (mRepM atom T) := by
  refine PErrX.mk (fun a dep p y ha hd hD h => ?_) (fun a dep r a1 ha hd hD h => ?_)
  · unfold mRepM at h
    rcases h2 : atom a dep with ⟨p', y'⟩ | ⟨r', a'⟩
    · rw [h2] at h; cases h; exact ha0.bad ha hd hD h2
    · rw [h2] at h
      simp only at h
      split at h <;> cases h
  · unfold mRepM at h
    rcases h2 : atom a dep with ⟨p', y'⟩ | ⟨r', a'⟩
    · rw [h2] at h; cases h
    · rw [h2] at h
      simp only at h
      obtain ⟨g1, g2⟩ := ha0.good ha hd hD h2
      obtain ⟨o1, o2⟩ := oftLe hL g2
      split at h
      · cases h; exact ⟨by omega, o2⟩
      · cases h; exact ⟨g1, g2⟩
omit hL in
theorem mcatLoop_perr {D : Nat → Prop} {part : Nat → Nat → RX Mp} (hp : PErrX L D part) {dep : Nat} (hd : dep ≤ 32) (hD : D dep) : ∀ (f : Nat) (l : List Mp) (a : Nat), a ≤ L → L < a + f → (∀ p y, mCatLoop part T dep f l a = .error (p, y) → y = 4 ∨ y = 8) ∧ (∀ r a1, mCatLoop part T dep f l a = .ok (r, a1) → a ≤ a1 ∧ a1 ≤ L)
  | 0, _, _, h1, h2 => by omega
  | f + 1, l, a, h1, h2 => by
    rw [mCatLoop]
    split
    · rcases h3 : part a dep with ⟨p', y'⟩ | ⟨r', a'⟩
      · simp only
        exact ⟨fun p y h => by cases h; exact hp.bad h1 hd hD h3, fun r a1 h => by cases h⟩
      · simp only
        obtain ⟨g1, g2⟩ := hp.good h1 hd hD h3
        obtain ⟨i1, i2⟩ := mcatLoop_perr hp hd hD f (l ++ [r']) a' g2 (by omega)
        exact ⟨i1, fun r a1 h => ⟨by have := (i2 r a1 h).1; omega, (i2 r a1 h).2⟩⟩
    · exact ⟨fun p y h => (by cases h), fun r a1 h => (by cases h; exact ⟨Nat.le_refl _, h1⟩)⟩
omit hL in
theorem mcat_perr (hT : L < T.length) {D : Nat → Prop} {part : Nat → Nat → RX Mp} (hp : PErrX L D part) : PErrX L D (mCatM part T) := by
  refine PErrX.mk (fun a dep p y ha hd hD h => ?_) (fun a dep r a1 ha hd hD h => ?_)
  · unfold mCatM at h
    rcases h3 : part a dep with ⟨p', y'⟩ | ⟨r', a'⟩
    · rw [h3] at h; cases h; exact hp.bad ha hd hD h3
    · rw [h3] at h
      exact (mcatLoop_perr hp hd hD _ _ a' (hp.good ha hd hD h3).2 (by omega)).1 p y h
  · unfold mCatM at h
    rcases h3 : part a dep with ⟨p', y'⟩ | ⟨r', a'⟩
    · rw [h3] at h; cases h
    · rw [h3] at h
      obtain ⟨g1, g2⟩ := hp.good ha hd hD h3
      obtain ⟨i1, i2⟩ := (mcatLoop_perr hp hd hD _ _ a' g2 (by omega)).2 r a1 h
      exact ⟨by omega, i2⟩
theorem mrowLoop_perr {D : Nat → Prop} {part : Nat → Nat → RX Mp} (hp : PErrX L D part) {dep : Nat} (hd : dep ≤ 32) (hD : D dep) : ∀ (f : Nat) (l : List Mp) (a : Nat), a ≤ L → L < a + f → (∀ p y, mRowLoop part T dep f l a = .error (p, y) → y = 4 ∨ y = 8) ∧ (∀ r a1, mRowLoop part T dep f l a = .ok (r, a1) → a ≤ a1 ∧ a1 ≤ L)
  | 0, _, _, h1, h2 => by omega
  | f + 1, l, a, h1, h2 => by
    rw [mRowLoop]
    split
    · rename_i h0
      have hl := tkLt hL h1 (isB_kind h0)
      rcases h3 : part (a + 1) dep with ⟨p', y'⟩ | ⟨r', a'⟩
      · simp only
        exact ⟨fun p y h => by cases h; exact hp.bad hl hd hD h3, fun r a1 h => by cases h⟩
      · simp only
        obtain ⟨g1, g2⟩ := hp.good hl hd hD h3
        obtain ⟨i1, i2⟩ := mrowLoop_perr hp hd hD f (l ++ [r']) a' g2 (by omega)
        exact ⟨i1, fun r a1 h => ⟨by have := (i2 r a1 h).1; omega, (i2 r a1 h).2⟩⟩
    · exact ⟨fun p y h => (by cases h), fun r a1 h => (by cases h; exact ⟨Nat.le_refl _, h1⟩)⟩
theorem mrow_perr (hT : L < T.length) {D : Nat → Prop} {part : Nat → Nat → RX Mp} (hp : PErrX L D part) : PErrX L D (mRowM part T) := by
  refine PErrX.mk (fun a dep p y ha hd hD h => ?_) (fun a dep r a1 ha hd hD h => ?_)
  · unfold mRowM at h
    rcases h3 : part a dep with ⟨p', y'⟩ | ⟨r', a'⟩
    · rw [h3] at h; cases h; exact hp.bad ha hd hD h3
    · rw [h3] at h
      exact (mrowLoop_perr hL hp hd hD _ _ a' (hp.good ha hd hD h3).2 (by omega)).1 p y h
  · unfold mRowM at h
    rcases h3 : part a dep with ⟨p', y'⟩ | ⟨r', a'⟩
    · rw [h3] at h; cases h
    · rw [h3] at h
      obtain ⟨g1, g2⟩ := hp.good ha hd hD h3
      obtain ⟨i1, i2⟩ := (mrowLoop_perr hL hp hd hD _ _ a' g2 (by omega)).2 r a1 h
      exact ⟨by omega, i2⟩
theorem malt_perr (hT : L < T.length) : ∀ n, PErrX L (fun d => 33 ≤ n + d) (mAltM T n)
  | 0 => fun a dep ha hd hD => by simp only at hD; omega
  | n + 1 => by
    have h4 := mrow_perr hL hT (mcat_perr hT (mrep_perr hL (matom_perr hL (malt_perr hT n))))
    exact fun a dep ha hd hD => h4 a dep ha hd (by simp only at hD ⊢; omega)
theorem alt33 (hT : L < T.length) : PErr L (fun _ => True) (altM notNone T 33) := fun a dep ha hd _ => alt_perr hL hT notNone 33 a dep ha hd (by show 33 ≤ 33 + dep; omega)
theorem malt33 (hT : L < T.length) : PErrX L (fun _ => True) (mAltM T 33) := fun a dep ha hd _ => malt_perr hL hT 33 a dep ha hd (by show 33 ≤ 33 + dep; omega)
theorem named_perr (hT : L < T.length) (k : Int) : PErrX L (fun _ => True) (namedM k T) := by
  refine PErrX.mk (fun a dep p y ha hd hD h => ?_) (fun a dep r a1 ha hd hD h => ?_)
  · unfold namedM at h
    rcases h1 : nameM T a with ⟨p', y'⟩ | ⟨s, a'⟩
    · rw [h1] at h; cases h; exact .inl (name_err h1)
    · rw [h1] at h
      simp only at h
      obtain ⟨g1, g2⟩ := name_next hL ha h1
      split at h
      · rename_i h2
        have hl := tkLt hL g2 (isB_kind h2)
        rcases h3 : altM notNone T 33 (a' + 1) dep with ⟨p', y'⟩ | ⟨r', a2⟩
        · rw [h3] at h; cases h; exact (alt33 hL hT).bad hl hd trivial h3
        · rw [h3] at h; cases h
      · cases h; exact .inl rfl
  · unfold namedM at h
    rcases h1 : nameM T a with ⟨p', y'⟩ | ⟨s, a'⟩
    · rw [h1] at h; cases h
    · rw [h1] at h
      simp only at h
      obtain ⟨g1, g2⟩ := name_next hL ha h1
      split at h
      · rename_i h2
        have hl := tkLt hL g2 (isB_kind h2)
        rcases h3 : altM notNone T 33 (a' + 1) dep with ⟨p', y'⟩ | ⟨r', a2⟩
        · rw [h3] at h; cases h
        · rw [h3] at h
          cases h
          obtain ⟨g3, g4⟩ := (alt33 hL hT).good hl hd trivial h3
          exact ⟨by omega, g4⟩
      · cases h
theorem mapItem_perr (hT : L < T.length) : PErrX L (fun _ => True) (mapItemM T) := by
  refine PErrX.mk (fun a dep p y ha hd hD h => ?_) (fun a dep r a1 ha hd hD h => ?_)
  · unfold mapItemM at h
    rcases h1 : nameM T a with ⟨p', y'⟩ | ⟨s, a'⟩
    · rw [h1] at h; cases h; exact .inl (name_err h1)
    · rw [h1] at h
      simp only at h
      obtain ⟨g1, g2⟩ := name_next hL ha h1
      split at h
      · rename_i h2
        have hl := tkLt hL g2 (isB_kind h2)
        rcases h3 : mAltM T 33 (a' + 1) dep with ⟨p', y'⟩ | ⟨r', a2⟩
        · rw [h3] at h; cases h; exact (malt33 hL hT).bad hl hd trivial h3
        · rw [h3] at h; cases h
      · cases h; exact .inl rfl
  · unfold mapItemM at h
    rcases h1 : nameM T a with ⟨p', y'⟩ | ⟨s, a'⟩
    · rw [h1] at h; cases h
    · rw [h1] at h
      simp only at h
      obtain ⟨g1, g2⟩ := name_next hL ha h1
      split at h
      · rename_i h2
        have hl := tkLt hL g2 (isB_kind h2)
        rcases h3 : mAltM T 33 (a' + 1) dep with ⟨p', y'⟩ | ⟨r', a2⟩
        · rw [h3] at h; cases h
        · rw [h3] at h
          cases h
          obtain ⟨g3, g4⟩ := (malt33 hL hT).good hl hd trivial h3
          exact ⟨by omega, g4⟩
      · cases h
theorem ruleOut_perr : PErrX L (fun _ => True) (fun a _ => ruleOut T a) := by
  refine PErrX.mk (fun a dep p y ha hd hD h => ?_) (fun a dep r a1 ha hd hD h => ?_)
  · unfold ruleOut at h
    split at h
    · cases h
    · rcases h1 : nameM T a with ⟨p', y'⟩ | ⟨s, a'⟩
      · rw [h1] at h; cases h; exact .inl (name_err h1)
      · rw [h1] at h; cases h
  · unfold ruleOut at h
    split at h
    · rename_i h1
      have hk : (tokAt T a).kind = 2 := by simpa using h1
      cases h
      exact ⟨Nat.lt_succ_self _, tkLt hL ha (by rw [hk]; decide)⟩
    · rcases h1 : nameM T a with ⟨p', y'⟩ | ⟨s, a'⟩
      · rw [h1] at h; cases h
      · rw [h1] at h; cases h; exact name_next hL ha h1
theorem ruleTail_perr (hT : L < T.length) (r : Re) (o : List B × List B) {a dep : Nat} (ha : a ≤ L) (hd : dep ≤ 32) : (∀ p y, ruleTail r o T a dep = .error (p, y) → y = 4 ∨ y = 8) ∧ (∀ x a1, ruleTail r o T a dep = .ok (x, a1) → a ≤ a1 ∧ a1 ≤ L) := by
  unfold ruleTail
  split
  · rename_i h1
    have hl := tkLt hL ha (isB_kind h1)
    rcases h2 : altM notNone T 33 (a + 1) dep with ⟨p', y'⟩ | ⟨r', a2⟩
    · simp only
      exact ⟨fun p y h => by cases h; exact (alt33 hL hT).bad hl hd trivial h2, fun x a1 h => by cases h⟩
    · simp only
      obtain ⟨g1, g2⟩ := (alt33 hL hT).good hl hd trivial h2
      split
      · exact ⟨fun p y h => by cases h; exact .inl rfl, fun x a1 h => by cases h⟩
      · split
        · exact ⟨fun p y h => by cases h; exact .inl rfl, fun x a1 h => by cases h⟩
        · rename_i h4
          have hk : (tokAt T a2).kind = 1 := by simpa using h4
          have hl2 := tkLt hL g2 (by rw [hk]; decide)
          rcases h5 : altM notNone T 33 (a2 + 1) dep with ⟨p', y'⟩ | ⟨r2, a3⟩
          · simp only
            exact ⟨fun p y h => by cases h; exact (alt33 hL hT).bad hl2 hd trivial h5, fun x a1 h => by cases h⟩
          · simp only
            obtain ⟨g3, g4⟩ := (alt33 hL hT).good hl2 hd trivial h5
            exact ⟨fun p y h => (by cases h), fun x a1 h => (by cases h; exact ⟨by omega, g4⟩)⟩
  · exact ⟨fun p y h => (by cases h), fun x a1 h => (by cases h; exact ⟨Nat.le_refl _, ha⟩)⟩
theorem rule_perr (hT : L < T.length) : PErrX L (fun _ => True) (ruleM T) := by
  refine PErrX.mk (fun a dep p y ha hd hD h => ?_) (fun a dep r a1 ha hd hD h => ?_)
  · unfold ruleM at h
    rcases h1 : altM notNone T 33 a dep with ⟨p', y'⟩ | ⟨r', a'⟩
    · rw [h1] at h; cases h; exact (alt33 hL hT).bad ha hd trivial h1
    · rw [h1] at h
      simp only at h
      obtain ⟨g1, g2⟩ := (alt33 hL hT).good ha hd trivial h1
      split at h
      · rename_i h2
        have hl := tkLt hL g2 (isB_kind h2)
        rcases h3 : ruleOut T (a' + 1) with ⟨p', y'⟩ | ⟨o, a2⟩
        · rw [h3] at h; cases h; exact (ruleOut_perr hL).bad (dep := dep) hl hd trivial h3
        · rw [h3] at h
          exact (ruleTail_perr hL hT r' o ((ruleOut_perr hL).good (dep := dep) hl hd trivial h3).2 hd).1 _ _ h
      · cases h; exact .inl rfl
  · unfold ruleM at h
    rcases h1 : altM notNone T 33 a dep with ⟨p', y'⟩ | ⟨r', a'⟩
    · rw [h1] at h; cases h
    · rw [h1] at h
      simp only at h
      obtain ⟨g1, g2⟩ := (alt33 hL hT).good ha hd trivial h1
      split at h
      · rename_i h2
        have hl := tkLt hL g2 (isB_kind h2)
        rcases h3 : ruleOut T (a' + 1) with ⟨p', y'⟩ | ⟨o, a2⟩
        · rw [h3] at h; cases h
        · rw [h3] at h
          obtain ⟨g3, g4⟩ := (ruleOut_perr hL).good (dep := dep) hl hd trivial h3
          obtain ⟨g5, g6⟩ := (ruleTail_perr hL hT r' o g4 hd).2 _ _ h
          exact ⟨by omega, g6⟩
      · cases h
theorem item_perr (hT : L < T.length) (k : Nat) : PErrX L (fun _ => True) (itemM k T) := by
  have e : itemM k T = fun a dep => if k = 1 then namedM 1 T a dep else if k = 2 then mapItemM T a dep else if k = 3 then ruleM T a dep else namedM 4 T a dep := rfl
  rw [e]
  by_cases h1 : k = 1
  · simp only [h1, if_true]; exact named_perr hL hT 1
  · by_cases h2 : k = 2
    · simp only [h2, if_true]; exact mapItem_perr hL hT
    · by_cases h3 : k = 3
      · simp only [h3, if_true]; exact rule_perr hL hT
      · simp only [h1, h2, h3, if_false]; exact named_perr hL hT 4
theorem fileLoop_perr (hT : L < T.length) {dep : Nat} (hd : dep ≤ 32) : ∀ (f : Nat) (l : List It) (a : Nat), a ≤ L → L < a + f → (∀ p y, fileLoop T dep f l a = .error (p, y) → y = 2 ∨ y = 4 ∨ y = 8) ∧ (∀ r a1, fileLoop T dep f l a = .ok (r, a1) → a ≤ a1 ∧ a1 ≤ L ∧ (tokAt T a1).kind = 0)
  | 0, _, _, h1, h2 => by omega
  | f + 1, l, a, h1, h2 => by
    rw [fileLoop]
    split
    · rename_i hk0
      split
      · exact ⟨fun p y h => by cases h; exact .inl rfl, fun r a1 h => by cases h⟩
      · split
        · exact ⟨fun p y h => by cases h; exact .inr (.inl rfl), fun r a1 h => by cases h⟩
        · split
          · exact ⟨fun p y h => by cases h; exact .inr (.inl rfl), fun r a1 h => by cases h⟩
          · have hl := tkLt hL h1 (by simpa using hk0)
            rcases h3 : itemM (kindOf (tokAt T a).text) T (a + 1) dep with ⟨p', y'⟩ | ⟨x, a'⟩
            · simp only
              exact ⟨fun p y h => by cases h; exact .inr ((item_perr hL hT _).bad hl hd trivial h3), fun r a1 h => by cases h⟩
            · simp only
              obtain ⟨g1, g2⟩ := (item_perr hL hT _).good hl hd trivial h3
              split
              · rename_i h4
                have hl2 := tkLt hL g2 (isB_kind h4)
                obtain ⟨i1, i2⟩ := fileLoop_perr hT hd f (l ++ [x]) (a' + 1) hl2 (by omega)
                exact ⟨i1, fun r a1 h => ⟨by have := (i2 r a1 h).1; omega, (i2 r a1 h).2⟩⟩
              · exact ⟨fun p y h => (by cases h; exact .inr (.inl rfl)), fun r a1 h => (by cases h)⟩
    · rename_i hk0
      exact ⟨fun p y h => (by cases h), fun r a1 h => (by cases h; exact ⟨Nat.le_refl _, h1, by simpa using hk0⟩)⟩
end
/-- a fault of a file is one -/
theorem file_err {s : ByteArray} {p y : Int} (h : parseFile s = .error (p, y)) : y ≠ 0 := by
  unfold parseFile at h
  rcases h1 : allT s with ⟨p', x⟩ | l
  · rw [h1] at h
    cases h
    unfold allT at h1
    split at h1
    · cases h1; decide
    · exact allL_fault _ s 0 [] p' _ (Nat.zero_le _) (by omega) h1
  · rw [h1] at h
    simp only at h
    have hb := bases_of (s := s) (l := l) rfl
    have hf := fileLoop_perr hb.fin (by rw [hb.len]; omega) (dep := 0) (by omega) ((toksOf s l).length + 1) [] 0 (Nat.zero_le _) (by rw [hb.len]; omega)
    unfold closeF at h
    rcases h2 : fileM (toksOf s l) 0 0 with ⟨p', y'⟩ | ⟨r', a⟩
    · rw [h2] at h
      cases h
      rcases hf.1 _ _ h2 with rfl | rfl | rfl <;> decide
    · rw [h2] at h
      simp only at h
      split at h
      · cases h; decide
      · cases h
end Go.Proofs.YtfljcfdfgojdoaaGreatDoor

namespace Go.Proofs.YtfljcfdfgojdoaaGreatDoor
open Go.Lib

def Endz (t : Tok) : Prop := t.kind = 0 ∨ (t.kind = 4 ∧ t.text = [59])
theorem Endz.isB {t : Tok} (h : Endz t) {s : List B} (hs : s ≠ [59]) : isB t s = false := by
  unfold Go.Proofs.YtfljcfdfgojdoaaGreatDoor.isB
  rcases h with h | ⟨h, h2⟩
  · rw [h]; rfl
  · rw [h, h2]
    simp only [Bool.and_eq_false_iff]
    exact .inr (beq_eq_false_iff_ne.2 (Ne.symm hs))
theorem Endz.begins {t : Tok} (h : Endz t) : beginsB t = false := by
  have h1 := h.isB (s := [46]) (by decide)
  have h2 := h.isB (s := [40]) (by decide)
  unfold beginsB
  rcases h with h | ⟨h, _⟩ <;> simp [h, h1, h2]
theorem Endz.kind {t : Tok} (h : Endz t) {k : Int} (h0 : k ≠ 0) (h4 : k ≠ 4) : t.kind ≠ k := by
  rcases h with h | ⟨h, _⟩
  · rw [h]; exact Ne.symm h0
  · rw [h]; exact Ne.symm h4
/-- L tokens of T stand in T', from off on; behind them, in both, the end or a ';' -/
structure Az (T T' : List Tok) (L off : Nat) : Prop where
  same : ∀ i, i < L → (tokAt T' (off + i)).base = (tokAt T i).base
  e : Endz (tokAt T L)
  e' : Endz (tokAt T' (off + L))
  len : T.length ≤ T'.length
def PSx {α : Type} (L off : Nat) (part part' : Nat → Nat → RX α) : Prop :=
  ∀ a dep r a1, a ≤ L → part a dep = .ok (r, a1) → a1 ≤ L ∧ part' (off + a) dep = .ok (r, off + a1)
section
variable {T T' : List Tok} {L off : Nat}
theorem Az.isB (h : Az T T' L off) {a : Nat} (ha : a ≤ L) {s : List B} (hs : s ≠ [59]) : isB (tokAt T' (off + a)) s = Go.Proofs.YtfljcfdfgojdoaaGreatDoor.isB (tokAt T a) s := by
  rcases Nat.lt_or_eq_of_le ha with hl | rfl
  · exact isB_same (h.same a hl) _
  · rw [h.e.isB hs, h.e'.isB hs]
theorem Az.begins (h : Az T T' L off) {a : Nat} (ha : a ≤ L) : beginsB (tokAt T' (off + a)) = beginsB (tokAt T a) := by
  rcases Nat.lt_or_eq_of_le ha with hl | rfl
  · exact begins_same (h.same a hl)
  · rw [h.e.begins, h.e'.begins]
theorem Az.ltB (h : Az T T' L off) {a : Nat} (ha : a ≤ L) {s : List B} (h1 : Go.Proofs.YtfljcfdfgojdoaaGreatDoor.isB (tokAt T a) s = true) (hs : s ≠ [59]) : a < L := by
  rcases Nat.lt_or_eq_of_le ha with hl | rfl
  · exact hl
  · rw [h.e.isB hs] at h1; cases h1
theorem Az.ltK (h : Az T T' L off) {a : Nat} (ha : a ≤ L) {k : Int} (hk : (tokAt T a).kind = k) (h0 : k ≠ 0) (h4 : k ≠ 4) : a < L := by
  rcases Nat.lt_or_eq_of_le ha with hl | rfl
  · exact hl
  · exact absurd hk (h.e.kind h0 h4)
theorem often_sx (h : Az T T' L off) {a : Nat} (ha : a ≤ L) : (oftenM T a).next ≤ L ∧ oftenM T' (off + a) = ⟨(oftenM T a).least, (oftenM T a).most, (oftenM T a).ok, off + (oftenM T a).next⟩ := by
  unfold oftenM
  simp only [h.isB ha (s := [42]) (by decide), h.isB ha (s := [43]) (by decide), h.isB ha (s := [63]) (by decide)]
  split
  · rename_i h1
    exact ⟨h.ltB ha h1 (by decide), rfl⟩
  · split
    · rename_i h1
      exact ⟨h.ltB ha h1 (by decide), rfl⟩
    · split
      · rename_i h1
        exact ⟨h.ltB ha h1 (by decide), rfl⟩
      · exact ⟨ha, rfl⟩
theorem number_sx (h : Az T T' L off) {a a1 : Nat} {lo v : Int} (ha : a ≤ L) (hx : numberM T a lo = .ok (v, a1)) : a1 ≤ L ∧ numberM T' (off + a) lo = .ok (v, off + a1) := by
  unfold numberM at hx ⊢
  simp only at hx ⊢
  split at hx
  · cases hx
  · rename_i h1
    simp only [Except.ok.injEq, Prod.mk.injEq] at hx
    obtain ⟨rfl, rfl⟩ := hx
    have hk : (tokAt T a).kind = 5 := by
      have : ¬ ((tokAt T a).kind != 5) = true := fun e => h1 (.inl e)
      simpa using this
    have hl := h.ltK ha hk (by decide) (by decide)
    obtain ⟨b1, _, _, b4⟩ := base_parts (h.same a hl)
    rw [b1, b4, if_neg h1]
    exact ⟨hl, rfl⟩
theorem name_sx (h : Az T T' L off) {a a1 : Nat} {s : List B} (ha : a ≤ L) (hx : nameM T a = .ok (s, a1)) : a1 ≤ L ∧ nameM T' (off + a) = .ok (s, off + a1) := by
  unfold nameM at hx ⊢
  simp only at hx ⊢
  split at hx
  · cases hx
  · rename_i h1
    split at hx
    · cases hx
    · rename_i h2
      simp only [Except.ok.injEq, Prod.mk.injEq] at hx
      obtain ⟨rfl, rfl⟩ := hx
      have hk : (tokAt T a).kind = 1 := by simpa using h2
      have hl := h.ltK ha hk (by decide) (by decide)
      obtain ⟨b1, b2, _, _⟩ := base_parts (h.same a hl)
      rw [b1, b2, if_neg h1, if_neg h2]
      exact ⟨hl, rfl⟩
theorem leaf_sx (h : Az T T' L off) {N : Se} {a a1 : Nat} {r : Re} (ha : a ≤ L) (hx : leafM N T a = .ok (r, a1)) : a1 ≤ L ∧ leafM N T' (off + a) = .ok (r, off + a1) := by
  have hl : a < L := by
    rcases Nat.lt_or_eq_of_le ha with hl | rfl
    · exact hl
    · exfalso
      unfold leafM at hx
      have k2 := h.e.kind (k := 2) (by decide) (by decide)
      have k3 := h.e.kind (k := 3) (by decide) (by decide)
      have k1 := h.e.kind (k := 1) (by decide) (by decide)
      simp only [beq_iff_eq, k1, k2, k3, if_false, h.e.isB (s := [46]) (by decide)] at hx
      cases hx
  obtain ⟨b1, b2, b3, _⟩ := base_parts (h.same a hl)
  have hb := h.isB ha (s := [46]) (by decide)
  unfold leafM at hx ⊢
  simp only [b1, b2, b3, hb] at hx ⊢
  split at hx
  · rename_i h1
    rw [if_pos h1]
    simp only [Except.ok.injEq, Prod.mk.injEq] at hx
    obtain ⟨rfl, rfl⟩ := hx
    exact ⟨hl, rfl⟩
  · rename_i h1
    rw [if_neg h1]
    split at hx
    · rename_i h2
      rw [if_pos h2]
      simp only [Except.ok.injEq, Prod.mk.injEq] at hx
      obtain ⟨rfl, rfl⟩ := hx
      exact ⟨hl, rfl⟩
    · rename_i h2
      rw [if_neg h2]
      split at hx
      · rename_i h3
        rw [if_pos h3]
        rcases hn : nameM T a with e | ⟨s, a'⟩
        · rw [hn] at hx; cases hx
        · rw [hn] at hx
          simp only [Except.ok.injEq, Prod.mk.injEq] at hx
          obtain ⟨rfl, rfl⟩ := hx
          obtain ⟨n1, n2⟩ := name_sx h ha hn
          rw [n2]
          exact ⟨n1, rfl⟩
      · rename_i h3
        rw [if_neg h3]
        split at hx
        · rename_i h4
          rw [if_pos h4]
          simp only [Except.ok.injEq, Prod.mk.injEq] at hx
          obtain ⟨rfl, rfl⟩ := hx
          exact ⟨hl, rfl⟩
        · cases hx
theorem atom_sx (h : Az T T' L off) {N : Se} {alt alt' : Nat → Nat → R} (hs : PSx L off alt alt') : PSx L off (atomM N alt T) (atomM N alt' T') := by
  intro a dep r a1 ha hx
  unfold atomM at hx ⊢
  rw [h.isB ha (by decide)]
  split at hx
  · rename_i h1
    rw [if_pos h1]
    have hl := h.ltB ha h1 (by decide)
    split at hx
    · cases hx
    · rename_i hd
      rw [if_neg hd]
      rcases h2 : alt (a + 1) (dep + 1) with e | ⟨r', a'⟩
      · rw [h2] at hx; cases hx
      · rw [h2] at hx
        simp only at hx
        split at hx
        · rename_i h3
          simp only [Except.ok.injEq, Prod.mk.injEq] at hx
          obtain ⟨rfl, rfl⟩ := hx
          obtain ⟨l1, l2⟩ := hs (a + 1) (dep + 1) _ _ hl h2
          have hl' := h.ltB l1 h3 (by decide)
          refine ⟨hl', ?_⟩
          rw [show off + a + 1 = off + (a + 1) by omega, l2]
          simp only
          rw [h.isB l1 (by decide), if_pos h3]
          rfl
        · cases hx
  · rename_i h1
    rw [if_neg h1]
    exact leaf_sx h ha hx
theorem rep_sx (h : Az T T' L off) {atom atom' : Nat → Nat → R} (hs : PSx L off atom atom') : PSx L off (repM atom T) (repM atom' T') := by
  intro a dep r a1 ha hx
  unfold repM at hx ⊢
  rcases h0 : atom a dep with e | ⟨part, a2⟩
  · rw [h0] at hx; cases hx
  · rw [h0] at hx
    simp only at hx
    obtain ⟨l1, l2⟩ := hs a dep _ _ ha h0
    obtain ⟨o1, o2⟩ := often_sx h l1
    rw [l2]
    simp only [o2]
    split at hx
    · rename_i h1
      rw [if_pos h1]
      simp only [Except.ok.injEq, Prod.mk.injEq] at hx
      obtain ⟨rfl, rfl⟩ := hx
      exact ⟨o1, rfl⟩
    · rename_i h1
      rw [if_neg h1, h.isB l1 (by decide)]
      split at hx
      · rename_i h2
        have hl2 := h.ltB l1 h2 (by decide)
        rw [if_pos h2, show off + a2 + 1 = off + (a2 + 1) by omega]
        rcases n1 : numberM T (a2 + 1) 0 with e | ⟨lo, a3⟩
        · rw [n1] at hx; cases hx
        · rw [n1] at hx
          simp only at hx
          obtain ⟨m1, m2⟩ := number_sx h (a := a2 + 1) hl2 n1
          rw [m2]
          simp only
          rw [h.isB m1 (by decide)]
          split at hx
          · rename_i h3
            have hl3 := h.ltB m1 h3 (by decide)
            rw [if_pos h3, show off + a3 + 1 = off + (a3 + 1) by omega]
            rcases n2 : numberM T (a3 + 1) lo with e | ⟨hi, a4⟩
            · rw [n2] at hx; cases hx
            · rw [n2] at hx
              simp only at hx
              obtain ⟨m3, m4⟩ := number_sx h (a := a3 + 1) hl3 n2
              rw [m4]
              simp only
              rw [h.isB m3 (by decide)]
              split at hx
              · rename_i h4
                have hl4 := h.ltB m3 h4 (by decide)
                simp only [Except.ok.injEq, Prod.mk.injEq] at hx
                obtain ⟨rfl, rfl⟩ := hx
                rw [if_pos h4]
                exact ⟨hl4, rfl⟩
              · cases hx
          · rename_i h3
            rw [if_neg h3, h.isB m1 (by decide)]
            split at hx
            · rename_i h4
              have hl4 := h.ltB m1 h4 (by decide)
              simp only [Except.ok.injEq, Prod.mk.injEq] at hx
              obtain ⟨rfl, rfl⟩ := hx
              rw [if_pos h4]
              exact ⟨hl4, rfl⟩
            · cases hx
      · rename_i h2
        rw [if_neg h2]
        simp only [Except.ok.injEq, Prod.mk.injEq] at hx
        obtain ⟨rfl, rfl⟩ := hx
        exact ⟨l1, rfl⟩
theorem not_sx (h : Az T T' L off) {rep rep' : Nat → Nat → R} (hs : PSx L off rep rep') : ∀ f, PSx L off (notM rep T f) (notM rep' T' f)
  | 0 => by
    intro a dep r a1 ha hx
    rw [notM] at hx; cases hx
  | f + 1 => by
    intro a dep r a1 ha hx
    rw [notM] at hx
    rw [notM, h.isB ha (by decide)]
    split at hx
    · rename_i h1
      rw [if_pos h1]
      have hl := h.ltB ha h1 (by decide)
      split at hx
      · cases hx
      · rename_i hd
        rw [if_neg hd]
        rcases h2 : notM rep T f (a + 1) (dep + 1) with e | ⟨r', a'⟩
        · rw [h2] at hx; cases hx
        · rw [h2] at hx
          simp only [Except.ok.injEq, Prod.mk.injEq] at hx
          obtain ⟨rfl, rfl⟩ := hx
          obtain ⟨l1, l2⟩ := not_sx h hs f (a + 1) (dep + 1) _ _ hl h2
          rw [show off + a + 1 = off + (a + 1) by omega, l2]
          exact ⟨l1, rfl⟩
    · rename_i h1
      rw [if_neg h1]
      exact hs a dep r a1 ha hx
theorem catLoop_sx (h : Az T T' L off) {part part' : Nat → Nat → R} (hs : PSx L off part part') (dep : Nat) : ∀ (f f' : Nat) (l : List Re) (a : Nat) (r : Re) (a1 : Nat), f ≤ f' → a ≤ L → catLoop part T dep f l a = .ok (r, a1) → a1 ≤ L ∧ catLoop part' T' dep f' l (off + a) = .ok (r, off + a1)
  | 0, _, _, _, _, _, _, _, hx => by rw [catLoop] at hx; cases hx
  | f + 1, f', l, a, r, a1, hf, ha, hx => by
    obtain ⟨f', rfl⟩ : ∃ g, f' = g + 1 := ⟨f' - 1, by omega⟩
    rw [catLoop] at hx
    rw [catLoop, h.isB ha (by decide), h.begins ha]
    split at hx
    · rename_i h1
      rw [if_pos h1]
      rcases h2 : part a dep with e | ⟨r', a'⟩
      · rw [h2] at hx; cases hx
      · rw [h2] at hx
        obtain ⟨l1, l2⟩ := hs a dep _ _ ha h2
        rw [l2]
        exact catLoop_sx h hs dep f f' (l ++ [r']) a' r a1 (by omega) l1 hx
    · rename_i h1
      rw [if_neg h1]
      simp only [Except.ok.injEq, Prod.mk.injEq] at hx
      obtain ⟨rfl, rfl⟩ := hx
      exact ⟨ha, rfl⟩
theorem cat_sx (h : Az T T' L off) {part part' : Nat → Nat → R} (hs : PSx L off part part') : PSx L off (catM part T) (catM part' T') := by
  intro a dep r a1 ha hx
  unfold catM at hx ⊢
  rcases h2 : part a dep with e | ⟨r', a'⟩
  · rw [h2] at hx; cases hx
  · rw [h2] at hx
    obtain ⟨l1, l2⟩ := hs a dep _ _ ha h2
    have hlen := h.len
    rw [l2]
    exact catLoop_sx h hs dep (T.length + 1) (T'.length + 1) [r'] a' r a1 (by omega) l1 hx
theorem rowLoop_sx (h : Az T T' L off) {part part' : Nat → Nat → R} (hs : PSx L off part part') (dep : Nat) (kind : Int) {c : List B} (hc : c ≠ [59]) : ∀ (f f' : Nat) (l : List Re) (a : Nat) (r : Re) (a1 : Nat), f ≤ f' → a ≤ L → rowLoop part T dep kind c f l a = .ok (r, a1) → a1 ≤ L ∧ rowLoop part' T' dep kind c f' l (off + a) = .ok (r, off + a1)
  | 0, _, _, _, _, _, _, _, hx => by rw [rowLoop] at hx; cases hx
  | f + 1, f', l, a, r, a1, hf, ha, hx => by
    obtain ⟨f', rfl⟩ : ∃ g, f' = g + 1 := ⟨f' - 1, by omega⟩
    rw [rowLoop] at hx
    rw [rowLoop, h.isB ha hc]
    split at hx
    · rename_i h1
      rw [if_pos h1, show off + a + 1 = off + (a + 1) by omega]
      have hl := h.ltB ha h1 hc
      rcases h2 : part (a + 1) dep with e | ⟨r', a'⟩
      · rw [h2] at hx; cases hx
      · rw [h2] at hx
        obtain ⟨l1, l2⟩ := hs (a + 1) dep _ _ hl h2
        rw [l2]
        exact rowLoop_sx h hs dep kind hc f f' (l ++ [r']) a' r a1 (by omega) l1 hx
    · rename_i h1
      rw [if_neg h1]
      simp only [Except.ok.injEq, Prod.mk.injEq] at hx
      obtain ⟨rfl, rfl⟩ := hx
      exact ⟨ha, rfl⟩
theorem row_sx (h : Az T T' L off) {part part' : Nat → Nat → R} (hs : PSx L off part part') (kind : Int) {c : List B} (hc : c ≠ [59]) : PSx L off (rowM kind c part T) (rowM kind c part' T') := by
  intro a dep r a1 ha hx
  unfold rowM at hx ⊢
  rcases h2 : part a dep with e | ⟨r', a'⟩
  · rw [h2] at hx; cases hx
  · rw [h2] at hx
    obtain ⟨l1, l2⟩ := hs a dep _ _ ha h2
    have hlen := h.len
    rw [l2]
    exact rowLoop_sx h hs dep kind hc (T.length + 1) (T'.length + 1) [r'] a' r a1 (by omega) l1 hx
theorem alt_sx (h : Az T T' L off) (N : Se) : ∀ n, PSx L off (altM N T n) (altM N T' n)
  | 0 => by
    intro a dep r a1 ha hx
    cases hx
  | n + 1 => row_sx h (row_sx h (cat_sx h (not_sx h (rep_sx h (atom_sx h (alt_sx h N n))) 40)) 6 (c := [38]) (by decide)) 5 (c := [124]) (by decide)
theorem matom_sx (h : Az T T' L off) {alt alt' : Nat → Nat → RX Mp} (hs : PSx L off alt alt') : PSx L off (mAtomM alt T) (mAtomM alt' T') := by
  intro a dep r a1 ha hx
  unfold mAtomM at hx ⊢
  rw [h.isB ha (by decide)]
  split at hx
  · rename_i h1
    rw [if_pos h1]
    have hl := h.ltB ha h1 (by decide)
    split at hx
    · cases hx
    · rename_i hd
      rw [if_neg hd]
      rcases h2 : alt (a + 1) (dep + 1) with e | ⟨r', a'⟩
      · rw [h2] at hx; cases hx
      · rw [h2] at hx
        simp only at hx
        split at hx
        · rename_i h3
          simp only [Except.ok.injEq, Prod.mk.injEq] at hx
          obtain ⟨rfl, rfl⟩ := hx
          obtain ⟨l1, l2⟩ := hs (a + 1) (dep + 1) _ _ hl h2
          have hl' := h.ltB l1 h3 (by decide)
          refine ⟨hl', ?_⟩
          rw [show off + a + 1 = off + (a + 1) by omega, l2]
          simp only
          rw [h.isB l1 (by decide), if_pos h3]
          rfl
        · cases hx
  · rename_i h1
    rw [if_neg h1]
    rcases h2 : leafM notNone T a with e | ⟨r', a'⟩
    · rw [h2] at hx; cases hx
    · rw [h2] at hx
      simp only at hx
      obtain ⟨l1, l2⟩ := leaf_sx h ha h2
      rw [l2]
      simp only
      rw [h.isB l1 (by decide)]
      split at hx
      · rename_i h3
        have hl' := h.ltB l1 h3 (by decide)
        rw [if_pos h3]
        split at hx
        · cases hx
        · rename_i h4
          have hk : (tokAt T (a' + 1)).kind = 2 := by simpa using h4
          have hl2 := h.ltK hl' hk (by decide) (by decide)
          simp only [Except.ok.injEq, Prod.mk.injEq] at hx
          obtain ⟨rfl, rfl⟩ := hx
          obtain ⟨b1, b2, _, _⟩ := base_parts (h.same (a' + 1) hl2)
          rw [show off + a' + 1 = off + (a' + 1) by omega, b1, b2, if_neg h4]
          exact ⟨hl2, rfl⟩
      · rename_i h3
        rw [if_neg h3]
        simp only [Except.ok.injEq, Prod.mk.injEq] at hx
        obtain ⟨rfl, rfl⟩ := hx
        exact ⟨l1, rfl⟩
theorem mrep_sx (h : Az T T' L off) {atom atom' : Nat → Nat → RX Mp} (hs : PSx L off atom atom') : PSx L off (mRepM atom T) (mRepM atom' T') := by
  intro a dep r a1 ha hx
  unfold mRepM at hx ⊢
  rcases h0 : atom a dep with e | ⟨part, a2⟩
  · rw [h0] at hx; cases hx
  · rw [h0] at hx
    simp only at hx
    obtain ⟨l1, l2⟩ := hs a dep _ _ ha h0
    obtain ⟨o1, o2⟩ := often_sx h l1
    rw [l2]
    simp only [o2]
    split at hx
    · rename_i h1
      rw [if_pos h1]
      simp only [Except.ok.injEq, Prod.mk.injEq] at hx
      obtain ⟨rfl, rfl⟩ := hx
      exact ⟨o1, rfl⟩
    · rename_i h1
      rw [if_neg h1]
      simp only [Except.ok.injEq, Prod.mk.injEq] at hx
      obtain ⟨rfl, rfl⟩ := hx
      exact ⟨l1, rfl⟩
theorem mcatLoop_sx (h : Az T T' L off) {part part' : Nat → Nat → RX Mp} (hs : PSx L off part part') (dep : Nat) : ∀ (f f' : Nat) (l : List Mp) (a : Nat) (r : Mp) (a1 : Nat), f ≤ f' → a ≤ L → mCatLoop part T dep f l a = .ok (r, a1) → a1 ≤ L ∧ mCatLoop part' T' dep f' l (off + a) = .ok (r, off + a1)
  | 0, _, _, _, _, _, _, _, hx => by rw [mCatLoop] at hx; cases hx
  | f + 1, f', l, a, r, a1, hf, ha, hx => by
    obtain ⟨f', rfl⟩ : ∃ g, f' = g + 1 := ⟨f' - 1, by omega⟩
    rw [mCatLoop] at hx
    rw [mCatLoop, h.begins ha]
    split at hx
    · rename_i h1
      rw [if_pos h1]
      rcases h2 : part a dep with e | ⟨r', a'⟩
      · rw [h2] at hx; cases hx
      · rw [h2] at hx
        obtain ⟨l1, l2⟩ := hs a dep _ _ ha h2
        rw [l2]
        exact mcatLoop_sx h hs dep f f' (l ++ [r']) a' r a1 (by omega) l1 hx
    · rename_i h1
      rw [if_neg h1]
      simp only [Except.ok.injEq, Prod.mk.injEq] at hx
      obtain ⟨rfl, rfl⟩ := hx
      exact ⟨ha, rfl⟩
theorem mcat_sx (h : Az T T' L off) {part part' : Nat → Nat → RX Mp} (hs : PSx L off part part') : PSx L off (mCatM part T) (mCatM part' T') := by
  intro a dep r a1 ha hx
  unfold mCatM at hx ⊢
  rcases h2 : part a dep with e | ⟨r', a'⟩
  · rw [h2] at hx; cases hx
  · rw [h2] at hx
    obtain ⟨l1, l2⟩ := hs a dep _ _ ha h2
    have hlen := h.len
    rw [l2]
    exact mcatLoop_sx h hs dep (T.length + 1) (T'.length + 1) [r'] a' r a1 (by omega) l1 hx
theorem mrowLoop_sx (h : Az T T' L off) {part part' : Nat → Nat → RX Mp} (hs : PSx L off part part') (dep : Nat) : ∀ (f f' : Nat) (l : List Mp) (a : Nat) (r : Mp) (a1 : Nat), f ≤ f' → a ≤ L → mRowLoop part T dep f l a = .ok (r, a1) → a1 ≤ L ∧ mRowLoop part' T' dep f' l (off + a) = .ok (r, off + a1)
  | 0, _, _, _, _, _, _, _, hx => by rw [mRowLoop] at hx; cases hx
  | f + 1, f', l, a, r, a1, hf, ha, hx => by
    obtain ⟨f', rfl⟩ : ∃ g, f' = g + 1 := ⟨f' - 1, by omega⟩
    rw [mRowLoop] at hx
    rw [mRowLoop, h.isB ha (by decide)]
    split at hx
    · rename_i h1
      rw [if_pos h1, show off + a + 1 = off + (a + 1) by omega]
      have hl := h.ltB ha h1 (by decide)
      rcases h2 : part (a + 1) dep with e | ⟨r', a'⟩
      · rw [h2] at hx; cases hx
      · rw [h2] at hx
        obtain ⟨l1, l2⟩ := hs (a + 1) dep _ _ hl h2
        rw [l2]
        exact mrowLoop_sx h hs dep f f' (l ++ [r']) a' r a1 (by omega) l1 hx
    · rename_i h1
      rw [if_neg h1]
      simp only [Except.ok.injEq, Prod.mk.injEq] at hx
      obtain ⟨rfl, rfl⟩ := hx
      exact ⟨ha, rfl⟩
theorem mrow_sx (h : Az T T' L off) {part part' : Nat → Nat → RX Mp} (hs : PSx L off part part') : PSx L off (mRowM part T) (mRowM part' T') := by
  intro a dep r a1 ha hx
  unfold mRowM at hx ⊢
  rcases h2 : part a dep with e | ⟨r', a'⟩
  · rw [h2] at hx; cases hx
  · rw [h2] at hx
    obtain ⟨l1, l2⟩ := hs a dep _ _ ha h2
    have hlen := h.len
    rw [l2]
    exact mrowLoop_sx h hs dep (T.length + 1) (T'.length + 1) [r'] a' r a1 (by omega) l1 hx
theorem malt_sx (h : Az T T' L off) : ∀ n, PSx L off (mAltM T n) (mAltM T' n)
  | 0 => by
    intro a dep r a1 ha hx
    cases hx
  | n + 1 => mrow_sx h (mcat_sx h (mrep_sx h (matom_sx h (malt_sx h n))))
end
end Go.Proofs.YtfljcfdfgojdoaaGreatDoor

namespace Go.Proofs.YtfljcfdfgojdoaaGreatDoor
open Go.Lib

section
variable {T T' : List Tok} {L off : Nat}
theorem named_sx (h : Az T T' L off) (k : Int) : PSx L off (namedM k T) (namedM k T') := by
  intro a dep r a1 ha hx
  unfold namedM at hx ⊢
  rcases h1 : nameM T a with e | ⟨s, a'⟩
  · rw [h1] at hx; cases hx
  · rw [h1] at hx
    obtain ⟨l1, l2⟩ := name_sx h ha h1
    rw [l2]
    simp only at hx ⊢
    rw [h.isB l1 (by decide)]
    split at hx
    · rename_i h2
      have hl := h.ltB l1 h2 (by decide)
      rw [if_pos h2, show off + a' + 1 = off + (a' + 1) by omega]
      rcases h3 : altM notNone T 33 (a' + 1) dep with e | ⟨r', a2⟩
      · rw [h3] at hx; cases hx
      · rw [h3] at hx
        obtain ⟨l3, l4⟩ := alt_sx h notNone 33 (a' + 1) dep _ _ hl h3
        simp only [Except.ok.injEq, Prod.mk.injEq] at hx
        obtain ⟨rfl, rfl⟩ := hx
        rw [l4]
        exact ⟨l3, rfl⟩
    · cases hx
theorem mapItem_sx (h : Az T T' L off) : PSx L off (mapItemM T) (mapItemM T') := by
  intro a dep r a1 ha hx
  unfold mapItemM at hx ⊢
  rcases h1 : nameM T a with e | ⟨s, a'⟩
  · rw [h1] at hx; cases hx
  · rw [h1] at hx
    obtain ⟨l1, l2⟩ := name_sx h ha h1
    rw [l2]
    simp only at hx ⊢
    rw [h.isB l1 (by decide)]
    split at hx
    · rename_i h2
      have hl := h.ltB l1 h2 (by decide)
      rw [if_pos h2, show off + a' + 1 = off + (a' + 1) by omega]
      rcases h3 : mAltM T 33 (a' + 1) dep with e | ⟨r', a2⟩
      · rw [h3] at hx; cases hx
      · rw [h3] at hx
        obtain ⟨l3, l4⟩ := malt_sx h 33 (a' + 1) dep _ _ hl h3
        simp only [Except.ok.injEq, Prod.mk.injEq] at hx
        obtain ⟨rfl, rfl⟩ := hx
        rw [l4]
        exact ⟨l3, rfl⟩
    · cases hx
theorem ruleOut_sx (h : Az T T' L off) {a a1 : Nat} {o : List B × List B} (ha : a ≤ L) (hx : ruleOut T a = .ok (o, a1)) : a1 ≤ L ∧ ruleOut T' (off + a) = .ok (o, off + a1) := by
  unfold ruleOut at hx ⊢
  split at hx
  · rename_i h1
    have hk : (tokAt T a).kind = 2 := by simpa using h1
    have hl := h.ltK ha hk (by decide) (by decide)
    obtain ⟨b1, b2, _, _⟩ := base_parts (h.same a hl)
    simp only [Except.ok.injEq, Prod.mk.injEq] at hx
    obtain ⟨rfl, rfl⟩ := hx
    rw [b1, b2, if_pos h1]
    exact ⟨hl, rfl⟩
  · rename_i h1
    rcases h2 : nameM T a with e | ⟨s, a'⟩
    · rw [h2] at hx; cases hx
    · rw [h2] at hx
      obtain ⟨l1, l2⟩ := name_sx h ha h2
      simp only [Except.ok.injEq, Prod.mk.injEq] at hx
      obtain ⟨rfl, rfl⟩ := hx
      have hl : a < L := by
        unfold nameM at h2
        simp only at h2
        split at h2
        · cases h2
        · split at h2
          · cases h2
          · rename_i h3
            exact h.ltK ha (k := 1) (by simpa using h3) (by decide) (by decide)
      obtain ⟨b1, _, _, _⟩ := base_parts (h.same a hl)
      rw [b1, if_neg h1, l2]
      exact ⟨l1, rfl⟩
theorem ruleTail_sx (h : Az T T' L off) (q : Re) (o : List B × List B) {a a1 dep : Nat} {x : It} (ha : a ≤ L) (hx : ruleTail q o T a dep = .ok (x, a1)) : a1 ≤ L ∧ ruleTail q o T' (off + a) dep = .ok (x, off + a1) := by
  unfold ruleTail at hx ⊢
  rw [h.isB ha (by decide)]
  split at hx
  · rename_i h1
    have hl := h.ltB ha h1 (by decide)
    rw [if_pos h1, show off + a + 1 = off + (a + 1) by omega]
    rcases h2 : altM notNone T 33 (a + 1) dep with e | ⟨r', a2⟩
    · rw [h2] at hx; cases hx
    · rw [h2] at hx
      obtain ⟨l1, l2⟩ := alt_sx h notNone 33 (a + 1) dep _ _ hl h2
      rw [l2]
      simp only at hx ⊢
      split at hx
      · cases hx
      · rename_i h3
        split at hx
        · cases hx
        · rename_i h4
          have hk : (tokAt T a2).kind = 1 := by simpa using h4
          have hl2 := h.ltK l1 hk (by decide) (by decide)
          obtain ⟨b1, b2, _, _⟩ := base_parts (h.same a2 hl2)
          rw [b1, b2, if_neg h3, if_neg h4, show off + a2 + 1 = off + (a2 + 1) by omega]
          rcases h5 : altM notNone T 33 (a2 + 1) dep with e | ⟨r2, a3⟩
          · rw [h5] at hx; cases hx
          · rw [h5] at hx
            obtain ⟨l3, l4⟩ := alt_sx h notNone 33 (a2 + 1) dep _ _ hl2 h5
            rw [l4]
            simp only [Except.ok.injEq, Prod.mk.injEq] at hx
            obtain ⟨rfl, rfl⟩ := hx
            exact ⟨l3, rfl⟩
  · rename_i h1
    rw [if_neg h1]
    simp only [Except.ok.injEq, Prod.mk.injEq] at hx
    obtain ⟨rfl, rfl⟩ := hx
    exact ⟨ha, rfl⟩
theorem rule_sx (h : Az T T' L off) : PSx L off (ruleM T) (ruleM T') := by
  intro a dep r a1 ha hx
  unfold ruleM at hx ⊢
  rcases h1 : altM notNone T 33 a dep with e | ⟨r', a'⟩
  · rw [h1] at hx; cases hx
  · rw [h1] at hx
    obtain ⟨l1, l2⟩ := alt_sx h notNone 33 a dep _ _ ha h1
    rw [l2]
    simp only at hx ⊢
    rw [h.isB l1 (by decide)]
    split at hx
    · rename_i h2
      have hl := h.ltB l1 h2 (by decide)
      rw [if_pos h2, show off + a' + 1 = off + (a' + 1) by omega]
      rcases h3 : ruleOut T (a' + 1) with e | ⟨o, a2⟩
      · rw [h3] at hx; cases hx
      · rw [h3] at hx
        obtain ⟨l3, l4⟩ := ruleOut_sx h hl h3
        rw [l4]
        exact ruleTail_sx h r' o l3 hx
    · cases hx
theorem item_sx (h : Az T T' L off) (k : Nat) : PSx L off (itemM k T) (itemM k T') := by
  have e : ∀ T, itemM k T = fun a dep => if k = 1 then namedM 1 T a dep else if k = 2 then mapItemM T a dep else if k = 3 then ruleM T a dep else namedM 4 T a dep := fun _ => rfl
  rw [e, e]
  by_cases h1 : k = 1
  · simp only [h1, if_true]; exact named_sx h 1
  · by_cases h2 : k = 2
    · simp only [h2, if_true]; exact mapItem_sx h
    · by_cases h3 : k = 3
      · simp only [h3, if_true]; exact rule_sx h
      · simp only [h1, h2, h3, if_false]; exact named_sx h 4
theorem isB_semi {t : Tok} (h : isB t [59] = true) : t.kind = 4 ∧ t.text = [59] := by
  simp only [isB, Bool.and_eq_true, beq_iff_eq] at h
  exact h
/-- a file within another one -/
theorem fileLoop_sx (hs : ∀ i, i < L → (tokAt T' (off + i)).base = (tokAt T i).base) (hL : (tokAt T L).kind = 0) (hnz : ∀ i, i < L → (tokAt T i).kind ≠ 0) (hT : L < T.length) (hlen : T.length ≤ T'.length) : ∀ (f : Nat) (l : List It) (a : Nat) (r : List It) (a1 : Nat), a ≤ L → fileLoop T 0 f l a = .ok (r, a1) →
    a1 = L ∧ ∃ m, r = l ++ m ∧ m.length ≤ L - a ∧ ∀ (p : List It) (g : Nat), p.length + m.length ≤ 256 → fileLoop T' 0 (m.length + g) p (off + a) = fileLoop T' 0 g (p ++ m) (off + L)
  | 0, _, _, _, _, _, hx => by rw [fileLoop] at hx; cases hx
  | f + 1, l, a, r, a1, ha, hx => by
    rw [fileLoop] at hx
    split at hx
    · rename_i hk0
      have hk0' : (tokAt T a).kind ≠ 0 := by simpa using hk0
      split at hx
      · cases hx
      · split at hx
        · cases hx
        · rename_i h256 hw
          split at hx
          · cases hx
          · rename_i hk1
            have hl := tkLt hL ha hk0'
            rcases h3 : itemM (kindOf (tokAt T a).text) T (a + 1) 0 with e | ⟨x, a'⟩
            · rw [h3] at hx; cases hx
            · rw [h3] at hx
              simp only at hx
              obtain ⟨g1, g2⟩ := (item_perr hL hT _).good hl (by omega) trivial h3
              split at hx
              · rename_i h4
                have hl2 := tkLt hL g2 (isB_kind h4)
                obtain ⟨e1, m, e2, e3, e4⟩ := fileLoop_sx hs hL hnz hT hlen f (l ++ [x]) (a' + 1) r a1 hl2 hx
                refine ⟨e1, x :: m, by rw [e2]; simp, by simp; omega, fun p g hp => ?_⟩
                simp only [List.length_cons] at hp ⊢
                rw [show m.length + 1 + g = (m.length + g) + 1 by omega, fileLoop]
                obtain ⟨b1, b2, _, _⟩ := base_parts (hs a (by omega))
                obtain ⟨c1, c2, _, _⟩ := base_parts (hs a' (by omega))
                have hz : Az T T' a' off := ⟨fun i hi => hs i (by omega), .inr (isB_semi h4), .inr (by rw [c1, c2]; exact isB_semi h4), hlen⟩
                obtain ⟨i1, i2⟩ := item_sx hz (kindOf (tokAt T a).text) (a + 1) 0 x a' (by omega) h3
                have h256' : ¬ p.length = 256 := by omega
                rw [b1, b2, if_pos hk0, if_neg h256', if_neg hw, if_neg hk1, show off + a + 1 = off + (a + 1) by omega, i2]
                simp only
                rw [isB_same (hs a' (by omega)), if_pos h4, show off + a' + 1 = off + (a' + 1) by omega, e4 (p ++ [x]) g (by simp; omega)]
                simp
              · cases hx
    · rename_i hk0
      simp only [Except.ok.injEq, Prod.mk.injEq] at hx
      obtain ⟨rfl, rfl⟩ := hx
      have hk : (tokAt T a).kind = 0 := by simpa using hk0
      have : a = L := by
        rcases Nat.lt_or_eq_of_le ha with hlt | rfl
        · exact absurd hk (hnz a hlt)
        · rfl
      subst this
      exact ⟨rfl, [], by simp, by simp, fun p g hp => by simp⟩
end
/-- a text that is a file: its tokens, and what the parser makes of them -/
structure SaidF (s : ByteArray) (r : List It) (ms : List Tok) : Prop where
  lex : Lexes s.data.toList ms
  al : ∃ T f a, Bases T ms ∧ fileLoop T 0 f [] 0 = .ok (r, a)
theorem saidF_of {s : ByteArray} {r : List It} (h : parseFile s = .ok r) : ∃ ms, SaidF s r ms := by
  unfold parseFile at h
  rcases h1 : allT s with ⟨p, x⟩ | l
  · rw [h1] at h; cases h
  · rw [h1] at h
    simp only at h
    refine ⟨l.map Tok.base, allT_lexes h1, ?_⟩
    rcases h2 : fileM (toksOf s l) 0 0 with ⟨p, x⟩ | ⟨r', a⟩
    · rw [h2] at h; cases h
    · rw [h2] at h
      unfold closeF at h
      simp only at h
      split at h
      · cases h
      · cases h
        exact ⟨toksOf s l, _, a, bases_of rfl, h2⟩
theorem Bases.same {T T' ms ms' : List Tok} (h : Bases T ms) (h' : Bases T' ms') {off : Nat} (hm : ∀ i, i < ms.length → ms'[off + i]? = ms[i]?) : ∀ i, i < ms.length → (tokAt T' (off + i)).base = (tokAt T i).base := by
  intro i hi
  have h1 := h.at' i _ (List.getElem?_eq_getElem hi)
  have h2 := h'.at' (off + i) ms[i] (by rw [hm i hi]; exact List.getElem?_eq_getElem hi)
  rw [h1, h2]
theorem parseFile_of {s' : ByteArray} {ms : List Tok} (hl : Lexes s'.data.toList ms) (hs : s'.size ≤ 65536) {r : List It} (h : ∀ T, Bases T ms → fileM T 0 0 = .ok (r, ms.length)) : parseFile s' = .ok r := by
  obtain ⟨ts, h1, h2⟩ := lexes_allT hl hs
  have hb := bases_of (s := s') h2
  unfold parseFile
  rw [h1]
  simp only
  rw [h _ hb]
  unfold closeF
  simp only
  rw [if_neg (by rw [hb.fin]; simp)]
/-- two files, one behind the other -/
theorem file_two {s t st : ByteArray} {a b : List It} (ha : parseFile s = .ok a) (hb : parseFile t = .ok b) (hab : a.length + b.length ≤ 256) (hst : st.data.toList = s.data.toList ++ 10 :: t.data.toList) (hsz : st.size ≤ 65536) : parseFile st = .ok (a ++ b) := by
  obtain ⟨ms, hlx, T, f, a0, hbT, hT⟩ := saidF_of ha
  obtain ⟨ns, hly, U, g, b0, hbU, hU⟩ := saidF_of hb
  refine parseFile_of (ms := ms ++ ns) (by rw [hst]; exact hlx.app hly) hsz fun W hW => ?_
  have hWl : W.length = ms.length + ns.length + 1 := by rw [hW.len, List.length_append]
  have s1 := hbT.same hW (off := 0) (fun i hi => by rw [Nat.zero_add, List.getElem?_append_left hi])
  have s2 := hbU.same hW (off := ms.length) (fun i hi => by rw [List.getElem?_append_right (Nat.le_add_right _ _), Nat.add_sub_cancel_left])
  obtain ⟨_, m1, e1, l1, k1⟩ := fileLoop_sx s1 hbT.fin (hbT.nz (lexes_nz hlx)) (by rw [hbT.len]; omega) (by rw [hbT.len]; omega) f [] 0 a a0 (Nat.zero_le _) hT
  obtain ⟨_, m2, e2, l2, k2⟩ := fileLoop_sx s2 hbU.fin (hbU.nz (lexes_nz hly)) (by rw [hbU.len]; omega) (by rw [hbU.len]; omega) g [] 0 b b0 (Nat.zero_le _) hU
  rw [List.nil_append] at e1 e2
  subst e1
  subst e2
  unfold fileM
  obtain ⟨q, hq⟩ : ∃ q, W.length + 1 = a.length + (b.length + (q + 1)) := ⟨W.length - a.length - b.length, by omega⟩
  have r1 := k1 [] (b.length + (q + 1)) (by simp; omega)
  have r2 := k2 a (q + 1) hab
  simp only [Nat.zero_add, Nat.add_zero, List.nil_append] at r1 r2
  rw [hq, r1, r2, fileLoop]
  have hfin := hW.fin
  rw [List.length_append] at hfin
  rw [if_neg (by simp [hfin]), List.length_append]
end Go.Proofs.YtfljcfdfgojdoaaGreatDoor

namespace Go.Proofs.YtfljcfdfgojdoaaGreatDoor
open Go.Lib

/-- a name's token -/
def nb (s : List B) : Tok := ⟨1, s, Se.none, 0, 0⟩
theorem Lexes.eqs {r : List B} {l : List Tok} (h : Lexes r l) : Lexes (61 :: r) (sb 61 :: l) := h.sign rfl rfl
theorem Lexes.semi {r : List B} {l : List Tok} (h : Lexes r l) : Lexes (59 :: r) (sb 59 :: l) := h.sign rfl rfl
theorem lex_def {r : List B} {l : List Tok} (h : Lexes r l) : Lexes (100 :: 101 :: 102 :: 32 :: 120 :: 32 :: 61 :: 32 :: r) (nb [100, 101, 102] :: nb [120] :: sb 61 :: l) := by
  have h0 : Lexes (32 :: r) l := h.same rfl
  have h1 : Lexes (61 :: 32 :: r) (sb 61 :: l) := h0.eqs
  have h2 : Lexes (32 :: 61 :: 32 :: r) (sb 61 :: l) := h1.same rfl
  have h3 : Lexes (120 :: 32 :: 61 :: 32 :: r) (nb [120] :: sb 61 :: l) := .step (n := 1) rfl rfl h2
  have h4 : Lexes (32 :: 120 :: 32 :: 61 :: 32 :: r) (nb [120] :: sb 61 :: l) := h3.same rfl
  exact .step (n := 3) rfl rfl h4
theorem lex_token {r : List B} {l : List Tok} (h : Lexes r l) : Lexes (59 :: 116 :: 111 :: 107 :: 101 :: 110 :: 32 :: 121 :: 61 :: r) (sb 59 :: nb [116, 111, 107, 101, 110] :: nb [121] :: sb 61 :: l) := by
  have h1 := h.eqs
  have h2 : Lexes (121 :: 61 :: r) (nb [121] :: sb 61 :: l) := .step (n := 1) rfl rfl h1
  have h3 : Lexes (32 :: 121 :: 61 :: r) (nb [121] :: sb 61 :: l) := h2.same rfl
  have h4 : Lexes (116 :: 111 :: 107 :: 101 :: 110 :: 32 :: 121 :: 61 :: r) (nb [116, 111, 107, 101, 110] :: nb [121] :: sb 61 :: l) := .step (n := 5) rfl rfl h3
  exact h4.semi
/-- the text of the statement -/
def defL (r : List B) : List B := [100, 101, 102, 32, 120, 32, 61, 32] ++ (r ++ ([10, 59, 116, 111, 107, 101, 110, 32, 121, 61] ++ (r ++ [10, 59])))
theorem lex_defL {r : List B} {l : List Tok} (h : Lexes r l) : Lexes (defL r) (nb [100, 101, 102] :: nb [120] :: sb 61 :: (l ++ sb 59 :: nb [116, 111, 107, 101, 110] :: nb [121] :: sb 61 :: (l ++ [sb 59]))) := by
  have h1 : Lexes [59] [sb 59] := Lexes.nil.semi
  have h2 := lex_token (h.app h1)
  exact lex_def (h.app h2)
theorem base_nb {t : Tok} {s : List B} (h : t.base = nb s) : t.kind = 1 ∧ t.text = s := by
  obtain ⟨h1, h2, _, _⟩ := base_parts (t := nb s) (t' := t) (by rw [h]; rfl)
  exact ⟨h1, h2⟩
theorem base_sb {t : Tok} {c : B} (h : t.base = sb c) : t.kind = 4 ∧ t.text = [c] := by
  obtain ⟨h1, h2, _, _⟩ := base_parts (t := sb c) (t' := t) (by rw [h]; rfl)
  exact ⟨h1, h2⟩
theorem isB_of {t : Tok} {c : B} (h : t.base = sb c) : isB t [c] = true := by
  rw [sb_base c h]; simp
theorem name_of {T : List Tok} {a : Nat} {s : List B} (h : (tokAt T a).base = nb s) (hr : reservedB s = false) : nameM T a = .ok (s, a + 1) := by
  obtain ⟨h1, h2⟩ := base_nb h
  unfold nameM
  simp only
  rw [h1, h2, hr]
  rfl
/-- an item of a name and an expression, and the ';' behind it -/
theorem named_of {T U ms : List Tok} {k : Int} {a : Nat} {s : List B} {x : Re} (h1 : (tokAt T a).base = nb s) (hr : reservedB s = false) (h2 : (tokAt T (a + 1)).base = sb 61) (hU : Bases U ms) (hx : altM notNone U 33 0 0 = .ok (x, ms.length))
    (hs : ∀ i, i < ms.length → (tokAt T (a + 2 + i)).base = (tokAt U i).base) (he : (tokAt T (a + 2 + ms.length)).base = sb 59) (hlen : U.length ≤ T.length) :
    namedM k T a 0 = .ok (⟨k, s, x, Mp.zero, [], [], false, Re.zero, Re.zero⟩, a + 2 + ms.length) ∧ isB (tokAt T (a + 2 + ms.length)) [59] = true := by
  refine ⟨?_, isB_of he⟩
  have hz : Az U T ms.length (a + 2) := ⟨hs, .inl hU.fin, .inr (base_sb he), hlen⟩
  obtain ⟨_, l2⟩ := alt_sx hz notNone 33 0 0 x _ (Nat.zero_le _) hx
  unfold namedM
  rw [name_of h1 hr]
  simp only
  rw [if_pos (isB_of h2), show a + 1 + 1 = a + 2 + 0 by omega, l2]
theorem file_def {r s : ByteArray} {x : Re} (h : parseRe r = .ok x) (hs : s.data.toList = defL r.data.toList) (hsz : s.size ≤ 65536) :
    parseFile s = .ok [⟨1, [120], x, Mp.zero, [], [], false, Re.zero, Re.zero⟩, ⟨4, [121], x, Mp.zero, [], [], false, Re.zero, Re.zero⟩] := by
  obtain ⟨ms, hlx, U, hU, hx⟩ := said_of h
  refine parseFile_of (ms := _) (by rw [hs]; exact lex_defL hlx) hsz fun T hT => ?_
  have hl : T.length = 2 * ms.length + 9 := by rw [hT.len]; simp; omega
  generalize hms : (nb [100, 101, 102] :: nb [120] :: sb 61 :: (ms ++ sb 59 :: nb [116, 111, 107, 101, 110] :: nb [121] :: sb 61 :: (ms ++ [sb 59]))) = W at hT
  have hWl : W.length = 2 * ms.length + 8 := by rw [← hms]; simp; omega
  have at_ : ∀ i t, W[i]? = some t → (tokAt T i).base = t := hT.at'
  have w0 : W[0]? = some (nb [100, 101, 102]) := by rw [← hms]; rfl
  have w1 : W[1]? = some (nb [120]) := by rw [← hms]; rfl
  have w2 : W[2]? = some (sb 61) := by rw [← hms]; rfl
  have w3 : ∀ i, i < ms.length → W[3 + i]? = ms[i]? := fun i hi => by
    rw [← hms, show 3 + i = i + 1 + 1 + 1 by omega]
    simp only [List.getElem?_cons_succ]
    rw [List.getElem?_append_left hi]
  have w4 : ∀ j, W[3 + ms.length + j]? = (sb 59 :: nb [116, 111, 107, 101, 110] :: nb [121] :: sb 61 :: (ms ++ [sb 59]))[j]? := fun j => by
    rw [← hms, show 3 + ms.length + j = (ms.length + j) + 1 + 1 + 1 by omega]
    simp only [List.getElem?_cons_succ]
    rw [List.getElem?_append_right (Nat.le_add_right _ _), Nat.add_sub_cancel_left]
  have w5 : ∀ i, i < ms.length → W[7 + ms.length + i]? = ms[i]? := fun i hi => by
    rw [show 7 + ms.length + i = 3 + ms.length + (i + 1 + 1 + 1 + 1) by omega, w4]
    simp only [List.getElem?_cons_succ]
    rw [List.getElem?_append_left hi]
  have w6 : W[7 + 2 * ms.length]? = some (sb 59) := by
    rw [show 7 + 2 * ms.length = 3 + ms.length + (ms.length + 1 + 1 + 1 + 1) by omega, w4]
    simp only [List.getElem?_cons_succ]
    rw [List.getElem?_append_right (Nat.le_refl _)]
    simp
  have f : ∀ off, (∀ i, i < ms.length → W[off + i]? = ms[i]?) → ∀ i, i < ms.length → (tokAt T (off + i)).base = (tokAt U i).base := fun off h => hU.same hT h
  obtain ⟨i1, i2⟩ := named_of (k := 1) (a := 1) (at_ 1 _ w1) (by decide) (at_ 2 _ w2) hU hx (f 3 w3) (at_ (3 + ms.length) _ (by rw [show 3 + ms.length = 3 + ms.length + 0 by omega, w4]; rfl)) (by rw [hl, hU.len]; omega)
  obtain ⟨j1, j2⟩ := named_of (k := 4) (a := 5 + ms.length) (at_ _ _ (by rw [show 5 + ms.length = 3 + ms.length + 2 by omega, w4]; rfl)) (by decide) (at_ _ _ (by rw [show 5 + ms.length + 1 = 3 + ms.length + 3 by omega, w4]; rfl)) hU hx (fun i hi => by rw [show 5 + ms.length + 2 + i = 7 + ms.length + i by omega]; exact f (7 + ms.length) w5 i hi) (at_ _ _ (by rw [show 5 + ms.length + 2 + ms.length = 7 + 2 * ms.length by omega]; exact w6)) (by rw [hl, hU.len]; omega)
  obtain ⟨a1, a2⟩ := base_nb (at_ 0 _ w0)
  obtain ⟨b1, b2⟩ := base_nb (at_ (4 + ms.length) _ (by rw [show 4 + ms.length = 3 + ms.length + 1 by omega, w4]; rfl))
  unfold fileM
  rw [show T.length + 1 = (2 * ms.length + 7) + 1 + 1 + 1 by omega, fileLoop]
  have e1 : kindOf [100, 101, 102] = 1 := rfl
  have e4 : kindOf [116, 111, 107, 101, 110] = 4 := rfl
  rw [a1, a2, e1, if_pos (by decide), if_neg (by decide), if_neg (by decide), if_neg (by decide)]
  rw [show itemM 1 T (0 + 1) 0 = namedM 1 T 1 0 from rfl, i1]
  simp only
  rw [if_pos i2, fileLoop]
  rw [show 1 + 2 + ms.length + 1 = 4 + ms.length by omega, b1, b2, e4, if_pos (by decide), if_neg (by simp), if_neg (by decide), if_neg (by decide)]
  rw [show itemM 4 T (4 + ms.length + 1) 0 = namedM 4 T (4 + ms.length + 1) 0 from rfl, show 4 + ms.length + 1 = 5 + ms.length by omega, j1]
  simp only
  rw [if_pos j2, fileLoop]
  have hfin := hT.fin
  rw [hWl] at hfin
  rw [show 5 + ms.length + 2 + ms.length + 1 = 2 * ms.length + 8 by omega, if_neg (by simp [hfin]), hWl]
  rfl
end Go.Proofs.YtfljcfdfgojdoaaGreatDoor
