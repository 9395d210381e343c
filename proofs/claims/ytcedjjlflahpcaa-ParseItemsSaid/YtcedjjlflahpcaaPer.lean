/-
  What the parser tells of a fault is ErrForm or ErrDeep: its loops and its depth never run out of fuel; no program in sight.
-/
import Derived.Test.YtcedjjlflahpcaaBrl
namespace Go.Proofs.Ytcedjjlflahpcaa
open Go.Lib

/-- a function of the parser goes on by a token at least, and what it tells of a fault is 4 or 8 -/
def PErr (L : Nat) (D : Nat → Prop) (part : Nat → Nat → R) : Prop :=
  ∀ a dep, a ≤ L → dep ≤ 32 → D dep → match part a dep with | .error (_, y) => y = 4 ∨ y = 8 | .ok (_, a1) => a < a1 ∧ a1 ≤ L
theorem PErr.bad {L : Nat} {D : Nat → Prop} {part : Nat → Nat → R} (h : PErr L D part) {a dep : Nat} (ha : a ≤ L) (hd : dep ≤ 32) (hD : D dep) {p y : Int} (hx : part a dep = .error (p, y)) : y = 4 ∨ y = 8 := by
  have := h a dep ha hd hD; rw [hx] at this; exact this
theorem PErr.good {L : Nat} {D : Nat → Prop} {part : Nat → Nat → R} (h : PErr L D part) {a dep : Nat} (ha : a ≤ L) (hd : dep ≤ 32) (hD : D dep) {r : Re} {a1 : Nat} (hx : part a dep = .ok (r, a1)) : a < a1 ∧ a1 ≤ L := by
  have := h a dep ha hd hD; rw [hx] at this; exact this
theorem PErr.mk {L : Nat} {D : Nat → Prop} {part : Nat → Nat → R} (h1 : ∀ a dep p y, a ≤ L → dep ≤ 32 → D dep → part a dep = .error (p, y) → y = 4 ∨ y = 8) (h2 : ∀ a dep r a1, a ≤ L → dep ≤ 32 → D dep → part a dep = .ok (r, a1) → a < a1 ∧ a1 ≤ L) : PErr L D part := by
  intro a dep ha hd hD
  rcases hx : part a dep with ⟨p, y⟩ | ⟨r, a1⟩
  · exact h1 a dep p y ha hd hD hx
  · exact h2 a dep r a1 ha hd hD hx
section
variable {T : List Tok} {L : Nat} (hL : (tokAt T L).kind = 0)
include hL
theorem tkLt {a : Nat} (ha : a ≤ L) (hk : (tokAt T a).kind ≠ 0) : a + 1 ≤ L := by
  rcases Nat.lt_or_eq_of_le ha with hl | rfl
  · exact hl
  · exact absurd hL hk
omit hL in
theorem name_err {a : Nat} {p y : Int} (h : nameM T a = .error (p, y)) : y = 4 := by
  unfold nameM at h
  simp only at h
  split at h
  · cases h; rfl
  · split at h
    · cases h; rfl
    · cases h
theorem name_next {a a1 : Nat} {s : List B} (ha : a ≤ L) (h : nameM T a = .ok (s, a1)) : a < a1 ∧ a1 ≤ L := by
  unfold nameM at h
  simp only at h
  split at h
  · cases h
  · split at h
    · cases h
    · rename_i h2
      cases h
      have hk : (tokAt T a).kind = 1 := by simpa using h2
      exact ⟨Nat.lt_succ_self _, tkLt hL ha (by rw [hk]; decide)⟩
omit hL in
theorem number_err {a : Nat} {lo p y : Int} (h : numberM T a lo = .error (p, y)) : y = 4 := by
  unfold numberM at h
  simp only at h
  split at h
  · cases h; rfl
  · cases h
theorem number_next {a a1 : Nat} {lo v : Int} (ha : a ≤ L) (h : numberM T a lo = .ok (v, a1)) : a < a1 ∧ a1 ≤ L := by
  unfold numberM at h
  simp only at h
  split at h
  · cases h
  · rename_i h1
    cases h
    have hk : (tokAt T a).kind = 5 := by
      have : ¬ ((tokAt T a).kind != 5) = true := fun e => h1 (.inl e)
      simpa using this
    exact ⟨Nat.lt_succ_self _, tkLt hL ha (by rw [hk]; decide)⟩
theorem oftLe {a : Nat} (ha : a ≤ L) : a ≤ (oftenM T a).next ∧ (oftenM T a).next ≤ L := by
  unfold oftenM
  simp only
  split
  · rename_i h1; exact ⟨Nat.le_succ _, tkLt hL ha (isB_kind h1)⟩
  · split
    · rename_i h1; exact ⟨Nat.le_succ _, tkLt hL ha (isB_kind h1)⟩
    · split
      · rename_i h1; exact ⟨Nat.le_succ _, tkLt hL ha (isB_kind h1)⟩
      · exact ⟨Nat.le_refl _, ha⟩
theorem leaf_perr (N : Se) : PErr L (fun _ => True) (fun a _ => leafM N T a) := by
  refine PErr.mk (fun a dep p y ha _ _ h => ?_) (fun a dep r a1 ha _ _ h => ?_)
  · unfold leafM at h
    simp only at h
    split at h
    · cases h
    · split at h
      · cases h
      · split at h
        · rcases hn : nameM T a with ⟨p', y'⟩ | ⟨s, a'⟩
          · rw [hn] at h; cases h; exact .inl (name_err hn)
          · rw [hn] at h; cases h
        · split at h
          · cases h
          · cases h; exact .inl rfl
  · unfold leafM at h
    simp only at h
    split at h
    · rename_i h1
      have hk : (tokAt T a).kind = 2 := by simpa using h1
      cases h
      exact ⟨Nat.lt_succ_self _, tkLt hL ha (by rw [hk]; decide)⟩
    · split at h
      · rename_i h1
        have hk : (tokAt T a).kind = 3 := by simpa using h1
        cases h
        exact ⟨Nat.lt_succ_self _, tkLt hL ha (by rw [hk]; decide)⟩
      · split at h
        · rcases hn : nameM T a with ⟨p', y'⟩ | ⟨s, a'⟩
          · rw [hn] at h; cases h
          · rw [hn] at h; cases h; exact name_next hL ha hn
        · split at h
          · rename_i h1
            cases h
            exact ⟨Nat.lt_succ_self _, tkLt hL ha (isB_kind h1)⟩
          · cases h
theorem atom_perr (N : Se) {D : Nat → Prop} {alt : Nat → Nat → R} (ha0 : PErr L D alt) : PErr L (fun d => D (d + 1)) (atomM N alt T) := by
  refine PErr.mk (fun a dep p y ha hd hD h => ?_) (fun a dep r a1 ha hd hD h => ?_)
  · unfold atomM at h
    split at h
    · rename_i h1
      have hl := tkLt hL ha (isB_kind h1)
      split at h
      · cases h; exact .inr rfl
      · rcases h2 : alt (a + 1) (dep + 1) with ⟨p', y'⟩ | ⟨r', a'⟩
        · rw [h2] at h; cases h; exact ha0.bad hl (by omega) hD h2
        · rw [h2] at h
          simp only at h
          split at h
          · cases h
          · cases h; exact .inl rfl
    · exact (leaf_perr hL N).bad ha hd trivial h
  · unfold atomM at h
    split at h
    · rename_i h1
      have hl := tkLt hL ha (isB_kind h1)
      split at h
      · cases h
      · rcases h2 : alt (a + 1) (dep + 1) with ⟨p', y'⟩ | ⟨r', a'⟩
        · rw [h2] at h; cases h
        · rw [h2] at h
          simp only at h
          obtain ⟨g1, g2⟩ := ha0.good hl (by omega) hD h2
          split at h
          · rename_i h3
            cases h
            exact ⟨by omega, tkLt hL g2 (isB_kind h3)⟩
          · cases h
    · exact (leaf_perr hL N).good ha hd trivial h
theorem rep_perr {D : Nat → Prop} {atom : Nat → Nat → R} (ha0 : PErr L D atom) : PErr L D (repM atom T) := by
  refine PErr.mk (fun a dep p y ha hd hD h => ?_) (fun a dep r a1 ha hd hD h => ?_)
  · unfold repM at h
    rcases h2 : atom a dep with ⟨p', y'⟩ | ⟨r', a'⟩
    · rw [h2] at h; cases h; exact ha0.bad ha hd hD h2
    · rw [h2] at h
      simp only at h
      split at h
      · cases h
      · split at h
        · rcases n1 : numberM T (a' + 1) 0 with ⟨p', y'⟩ | ⟨lo, a3⟩
          · rw [n1] at h; cases h; exact .inl (number_err n1)
          · rw [n1] at h
            simp only at h
            split at h
            · rcases n2 : numberM T (a3 + 1) lo with ⟨p', y'⟩ | ⟨hi, a4⟩
              · rw [n2] at h; cases h; exact .inl (number_err n2)
              · rw [n2] at h
                simp only at h
                split at h
                · cases h
                · cases h; exact .inl rfl
            · split at h
              · cases h
              · cases h; exact .inl rfl
        · cases h
  · unfold repM at h
    rcases h2 : atom a dep with ⟨p', y'⟩ | ⟨r', a'⟩
    · rw [h2] at h; cases h
    · rw [h2] at h
      simp only at h
      obtain ⟨g1, g2⟩ := ha0.good ha hd hD h2
      obtain ⟨o1, o2⟩ := oftLe hL g2
      split at h
      · cases h; exact ⟨by omega, o2⟩
      · split at h
        · rename_i h3
          have hl := tkLt hL g2 (isB_kind h3)
          rcases n1 : numberM T (a' + 1) 0 with ⟨p', y'⟩ | ⟨lo, a3⟩
          · rw [n1] at h; cases h
          · rw [n1] at h
            simp only at h
            obtain ⟨m1, m2⟩ := number_next hL hl n1
            split at h
            · rename_i h4
              have hl4 := tkLt hL m2 (isB_kind h4)
              rcases n2 : numberM T (a3 + 1) lo with ⟨p', y'⟩ | ⟨hi, a4⟩
              · rw [n2] at h; cases h
              · rw [n2] at h
                simp only at h
                obtain ⟨m3, m4⟩ := number_next hL hl4 n2
                split at h
                · rename_i h5
                  cases h
                  exact ⟨by omega, tkLt hL m4 (isB_kind h5)⟩
                · cases h
            · split at h
              · rename_i h5
                cases h
                exact ⟨by omega, tkLt hL m2 (isB_kind h5)⟩
              · cases h
        · cases h; exact ⟨g1, g2⟩
theorem not_perr {D : Nat → Prop} (hup : ∀ d, D d → D (d + 1)) {rep : Nat → Nat → R} (hr : PErr L D rep) : ∀ f, PErr L (fun d => D d ∧ 33 ≤ f + d) (notM rep T f)
  | 0 => fun a dep ha hd hD => by have := hD.2; omega
  | f + 1 => by
    have ih := not_perr hup hr f
    refine PErr.mk (fun a dep p y ha hd hD h => ?_) (fun a dep r a1 ha hd hD h => ?_)
    · rw [notM] at h
      split at h
      · rename_i h1
        have hl := tkLt hL ha (isB_kind h1)
        split at h
        · cases h; exact .inr rfl
        · rcases h2 : notM rep T f (a + 1) (dep + 1) with ⟨p', y'⟩ | ⟨r', a'⟩
          · rw [h2] at h; cases h; exact ih.bad hl (by omega) ⟨hup _ hD.1, by have := hD.2; omega⟩ h2
          · rw [h2] at h; cases h
      · exact hr.bad ha hd hD.1 h
    · rw [notM] at h
      split at h
      · rename_i h1
        have hl := tkLt hL ha (isB_kind h1)
        split at h
        · cases h
        · rcases h2 : notM rep T f (a + 1) (dep + 1) with ⟨p', y'⟩ | ⟨r', a'⟩
          · rw [h2] at h; cases h
          · rw [h2] at h
            cases h
            obtain ⟨g1, g2⟩ := ih.good hl (by omega) ⟨hup _ hD.1, by have := hD.2; omega⟩ h2
            exact ⟨by omega, g2⟩
      · exact hr.good ha hd hD.1 h
omit hL in
theorem catLoop_perr {D : Nat → Prop} {part : Nat → Nat → R} (hp : PErr L D part) {dep : Nat} (hd : dep ≤ 32) (hD : D dep) : ∀ (f : Nat) (l : List Re) (a : Nat), a ≤ L → L < a + f → (∀ p y, catLoop part T dep f l a = .error (p, y) → y = 4 ∨ y = 8) ∧ (∀ r a1, catLoop part T dep f l a = .ok (r, a1) → a ≤ a1 ∧ a1 ≤ L)
  | 0, _, _, h1, h2 => by omega
  | f + 1, l, a, h1, h2 => by
    rw [catLoop]
    split
    · rcases h3 : part a dep with ⟨p', y'⟩ | ⟨r', a'⟩
      · simp only
        exact ⟨fun p y h => by cases h; exact hp.bad h1 hd hD h3, fun r a1 h => by cases h⟩
      · simp only
        obtain ⟨g1, g2⟩ := hp.good h1 hd hD h3
        obtain ⟨i1, i2⟩ := catLoop_perr hp hd hD f (l ++ [r']) a' g2 (by omega)
        exact ⟨i1, fun r a1 h => ⟨by have := (i2 r a1 h).1; omega, (i2 r a1 h).2⟩⟩
    · exact ⟨fun p y h => (by cases h), fun r a1 h => (by cases h; exact ⟨Nat.le_refl _, h1⟩)⟩
omit hL in
theorem cat_perr (hT : L < T.length) {D : Nat → Prop} {part : Nat → Nat → R} (hp : PErr L D part) : PErr L D (catM part T) := by
  refine PErr.mk (fun a dep p y ha hd hD h => ?_) (fun a dep r a1 ha hd hD h => ?_)
  · unfold catM at h
    rcases h3 : part a dep with ⟨p', y'⟩ | ⟨r', a'⟩
    · rw [h3] at h; cases h; exact hp.bad ha hd hD h3
    · rw [h3] at h
      exact (catLoop_perr hp hd hD _ _ a' (hp.good ha hd hD h3).2 (by omega)).1 p y h
  · unfold catM at h
    rcases h3 : part a dep with ⟨p', y'⟩ | ⟨r', a'⟩
    · rw [h3] at h; cases h
    · rw [h3] at h
      obtain ⟨g1, g2⟩ := hp.good ha hd hD h3
      obtain ⟨i1, i2⟩ := (catLoop_perr hp hd hD _ _ a' g2 (by omega)).2 r a1 h
      exact ⟨by omega, i2⟩
theorem rowLoop_perr {D : Nat → Prop} {part : Nat → Nat → R} (hp : PErr L D part) {dep : Nat} (hd : dep ≤ 32) (hD : D dep) (k : Int) (s : List B) : ∀ (f : Nat) (l : List Re) (a : Nat), a ≤ L → L < a + f → (∀ p y, rowLoop part T dep k s f l a = .error (p, y) → y = 4 ∨ y = 8) ∧ (∀ r a1, rowLoop part T dep k s f l a = .ok (r, a1) → a ≤ a1 ∧ a1 ≤ L)
  | 0, _, _, h1, h2 => by omega
  | f + 1, l, a, h1, h2 => by
    rw [rowLoop]
    split
    · rename_i h0
      have hl := tkLt hL h1 (isB_kind h0)
      rcases h3 : part (a + 1) dep with ⟨p', y'⟩ | ⟨r', a'⟩
      · simp only
        exact ⟨fun p y h => by cases h; exact hp.bad hl hd hD h3, fun r a1 h => by cases h⟩
      · simp only
        obtain ⟨g1, g2⟩ := hp.good hl hd hD h3
        obtain ⟨i1, i2⟩ := rowLoop_perr hp hd hD k s f (l ++ [r']) a' g2 (by omega)
        exact ⟨i1, fun r a1 h => ⟨by have := (i2 r a1 h).1; omega, (i2 r a1 h).2⟩⟩
    · exact ⟨fun p y h => (by cases h), fun r a1 h => (by cases h; exact ⟨Nat.le_refl _, h1⟩)⟩
theorem row_perr (hT : L < T.length) {D : Nat → Prop} {part : Nat → Nat → R} (hp : PErr L D part) (k : Int) (s : List B) : PErr L D (rowM k s part T) := by
  refine PErr.mk (fun a dep p y ha hd hD h => ?_) (fun a dep r a1 ha hd hD h => ?_)
  · unfold rowM at h
    rcases h3 : part a dep with ⟨p', y'⟩ | ⟨r', a'⟩
    · rw [h3] at h; cases h; exact hp.bad ha hd hD h3
    · rw [h3] at h
      exact (rowLoop_perr hL hp hd hD k s _ _ a' (hp.good ha hd hD h3).2 (by omega)).1 p y h
  · unfold rowM at h
    rcases h3 : part a dep with ⟨p', y'⟩ | ⟨r', a'⟩
    · rw [h3] at h; cases h
    · rw [h3] at h
      obtain ⟨g1, g2⟩ := hp.good ha hd hD h3
      obtain ⟨i1, i2⟩ := (rowLoop_perr hL hp hd hD k s _ _ a' g2 (by omega)).2 r a1 h
      exact ⟨by omega, i2⟩
theorem alt_perr (hT : L < T.length) (N : Se) : ∀ n, PErr L (fun d => 33 ≤ n + d) (altM N T n)
  | 0 => fun a dep ha hd hD => by simp only at hD; omega
  | n + 1 => by
    have h1 := atom_perr hL N (alt_perr hT N n)
    have h2 := rep_perr hL h1
    have h3 : PErr L (fun d => 33 ≤ n + (d + 1)) (notM (repM (atomM N (altM N T n) T) T) T 40) := fun a dep ha hd hD =>
      not_perr hL (fun d (h : 33 ≤ n + (d + 1)) => (by omega : 33 ≤ n + (d + 1 + 1))) h2 40 a dep ha hd ⟨hD, by omega⟩
    have h4 := row_perr hL hT (row_perr hL hT (cat_perr hT h3) 6 [38]) 5 [124]
    exact fun a dep ha hd hD => h4 a dep ha hd (by simp only at hD ⊢; omega)
end
theorem allL_fault : ∀ (f : Nat) (s : ByteArray) (k : Nat) (acc : List Tok) (p : Nat) (x : Int), k ≤ s.size → s.size < k + f → allL f s k acc = .error (p, x) → x ≠ 0
  | 0, s, k, acc, p, x, h1, h2, _ => by omega
  | f + 1, s, k, acc, p, x, h1, h2, h => by
    have hf := nextL_facts s k h1
    rw [allL] at h
    try simp only at h
    split at h
    · rename_i he
      cases h
      simpa using he
    · rename_i he
      split at h
      · cases h
      · rename_i hk
        have := hf.2 (by simpa using he) (by simpa using hk)
        exact allL_fault f s _ _ p x hf.1 (by omega) h
/-- a fault is one -/
theorem parse_err {s : ByteArray} {p y : Int} (h : parseRe s = .error (p, y)) : y ≠ 0 := by
  unfold parseRe at h
  rcases h1 : allT s with ⟨p', x⟩ | l
  · rw [h1] at h
    cases h
    unfold allT at h1
    split at h1
    · cases h1; decide
    · exact allL_fault _ s 0 [] p' _ (Nat.zero_le _) (by omega) h1
  · rw [h1] at h
    simp only at h
    have hb := bases_of (s := s) (l := l) rfl
    have := alt_perr hb.fin (by rw [hb.len]; omega) notNone 33
    unfold closeM at h
    rcases h2 : altM notNone (toksOf s l) 33 0 0 with ⟨p', y'⟩ | ⟨r', a⟩
    · rw [h2] at h
      cases h
      rcases this.bad (Nat.zero_le _) (by omega) (by show 33 ≤ _; omega) h2 with rfl | rfl <;> decide
    · rw [h2] at h
      simp only at h
      split at h
      · cases h; decide
      · cases h
end Go.Proofs.Ytcedjjlflahpcaa
