/-
  The parser says the same of the same tokens wherever they stand, or that they stand too deep there; no program in sight.
-/
import Derived.Test.YtfljcfdfgojdoaaGreatDoorAa24
import Derived.Test.YtfljcfdfgojdoaaGreatDoorAa30
namespace Go.Proofs.YtfljcfdfgojdoaaGreatDoor
open Go.Lib

theorem base_parts {t t' : Tok} (h : t'.base = t.base) : t'.kind = t.kind ∧ t'.text = t.text ∧ t'.set = t.set ∧ t'.num = t.num := by
  cases t; cases t'
  unfold Tok.base at h
  simp only [Tok.mk.injEq] at h
  exact ⟨h.1, h.2.1, h.2.2.1, h.2.2.2.1⟩
theorem isB_same {t t' : Tok} (h : t'.base = t.base) (s : List B) : isB t' s = isB t s := by
  obtain ⟨h1, h2, _, _⟩ := base_parts h
  unfold isB; rw [h1, h2]
theorem begins_same {t t' : Tok} (h : t'.base = t.base) : beginsB t' = beginsB t := by
  obtain ⟨h1, h2, _, _⟩ := base_parts h
  unfold beginsB; rw [h1, h2, isB_same h, isB_same h]
/-- L tokens of T stand in T', from off on; behind them T is at its end, and in T' an expression ends -/
structure Al (T T' : List Tok) (L off : Nat) : Prop where
  same : ∀ i, i < L → (tokAt T' (off + i)).base = (tokAt T i).base
  fin : (tokAt T L).kind = 0
  nz : ∀ i, i < L → (tokAt T i).kind ≠ 0
  ends : Ends (tokAt T' (off + L))
  len : T.length ≤ T'.length
section
variable {T T' : List Tok} {L off : Nat}
theorem Al.lt (h : Al T T' L off) {a : Nat} (ha : a ≤ L) (hk : (tokAt T a).kind ≠ 0) : a < L := by
  rcases Nat.lt_or_eq_of_le ha with hl | rfl
  · exact hl
  · exact absurd h.fin hk
theorem Al.isB (h : Al T T' L off) {a : Nat} (ha : a ≤ L) {d : B} (hd : d ≠ 41) : isB (tokAt T' (off + a)) [d] = Go.Proofs.YtfljcfdfgojdoaaGreatDoor.isB (tokAt T a) [d] := by
  rcases Nat.lt_or_eq_of_le ha with hl | rfl
  · exact isB_same (h.same a hl) _
  · rw [h.ends.s d hd]
    unfold Go.Proofs.YtfljcfdfgojdoaaGreatDoor.isB
    rw [h.fin]; rfl
theorem Al.begins (h : Al T T' L off) {a : Nat} (ha : a ≤ L) : beginsB (tokAt T' (off + a)) = beginsB (tokAt T a) := by
  rcases Nat.lt_or_eq_of_le ha with hl | rfl
  · exact begins_same (h.same a hl)
  · rw [h.ends.b, (Ends.fin h.fin).b]
theorem often_sim (h : Al T T' L off) {a : Nat} (ha : a ≤ L) : (oftenM T a).next ≤ L ∧ oftenM T' (off + a) = ⟨(oftenM T a).least, (oftenM T a).most, (oftenM T a).ok, off + (oftenM T a).next⟩ := by
  unfold oftenM
  simp only [h.isB ha (d := 42) (by decide), h.isB ha (d := 43) (by decide), h.isB ha (d := 63) (by decide)]
  split
  · rename_i h1
    have := h.lt ha (isB_kind h1)
    exact ⟨this, rfl⟩
  · split
    · rename_i h1
      have := h.lt ha (isB_kind h1)
      exact ⟨this, rfl⟩
    · split
      · rename_i h1
        have := h.lt ha (isB_kind h1)
        exact ⟨this, rfl⟩
      · exact ⟨ha, rfl⟩
theorem number_sim (h : Al T T' L off) {a a1 : Nat} {lo v : Int} (ha : a ≤ L) (hx : numberM T a lo = .ok (v, a1)) : a1 ≤ L ∧ numberM T' (off + a) lo = .ok (v, off + a1) := by
  unfold numberM at hx ⊢
  simp only at hx ⊢
  split at hx
  · cases hx
  · rename_i h1
    simp only [Except.ok.injEq, Prod.mk.injEq] at hx
    obtain ⟨rfl, rfl⟩ := hx
    have hk : (tokAt T a).kind = 5 := by
      have : ¬ ((tokAt T a).kind != 5) = true := fun e => h1 (.inl e)
      simpa using this
    have hl := h.lt ha (by rw [hk]; decide)
    obtain ⟨b1, _, _, b4⟩ := base_parts (h.same a hl)
    rw [b1, b4, if_neg h1]
    exact ⟨hl, rfl⟩
theorem name_sim (h : Al T T' L off) {a a1 : Nat} {s : List B} (ha : a ≤ L) (hx : nameM T a = .ok (s, a1)) : a1 ≤ L ∧ nameM T' (off + a) = .ok (s, off + a1) := by
  unfold nameM at hx ⊢
  simp only at hx ⊢
  split at hx
  · cases hx
  · rename_i h1
    split at hx
    · cases hx
    · rename_i h2
      simp only [Except.ok.injEq, Prod.mk.injEq] at hx
      obtain ⟨rfl, rfl⟩ := hx
      have hk : (tokAt T a).kind = 1 := by simpa using h2
      have hl := h.lt ha (by rw [hk]; decide)
      obtain ⟨b1, b2, _, _⟩ := base_parts (h.same a hl)
      rw [b1, b2, if_neg h1, if_neg h2]
      exact ⟨hl, rfl⟩
theorem leaf_sim (h : Al T T' L off) {N : Se} {a a1 : Nat} {r : Re} (ha : a ≤ L) (hx : leafM N T a = .ok (r, a1)) : a1 ≤ L ∧ leafM N T' (off + a) = .ok (r, off + a1) := by
  have hl : a < L := by
    refine h.lt ha fun h0 => ?_
    unfold leafM at hx
    simp only [h0, (Ends.fin h0).s 46 (by decide)] at hx
    simp at hx
  obtain ⟨b1, b2, b3, _⟩ := base_parts (h.same a hl)
  have hb := h.isB ha (d := 46) (by decide)
  unfold leafM at hx ⊢
  simp only [b1, b2, b3, hb] at hx ⊢
  split at hx
  · rename_i h1
    rw [if_pos h1]
    simp only [Except.ok.injEq, Prod.mk.injEq] at hx
    obtain ⟨rfl, rfl⟩ := hx
    exact ⟨hl, rfl⟩
  · rename_i h1
    rw [if_neg h1]
    split at hx
    · rename_i h2
      rw [if_pos h2]
      simp only [Except.ok.injEq, Prod.mk.injEq] at hx
      obtain ⟨rfl, rfl⟩ := hx
      exact ⟨hl, rfl⟩
    · rename_i h2
      rw [if_neg h2]
      split at hx
      · rename_i h3
        rw [if_pos h3]
        rcases hn : nameM T a with e | ⟨s, a'⟩
        · rw [hn] at hx; cases hx
        · rw [hn] at hx
          simp only [Except.ok.injEq, Prod.mk.injEq] at hx
          obtain ⟨rfl, rfl⟩ := hx
          obtain ⟨n1, n2⟩ := name_sim h ha hn
          rw [n2]
          exact ⟨n1, rfl⟩
      · rename_i h3
        rw [if_neg h3]
        split at hx
        · rename_i h4
          rw [if_pos h4]
          simp only [Except.ok.injEq, Prod.mk.injEq] at hx
          obtain ⟨rfl, rfl⟩ := hx
          exact ⟨hl, rfl⟩
        · cases hx
/-- a function of the parser, here and there: it says the same there, or that it stands too deep -/
def PSim (L off : Nat) (D : Nat → Prop) (part part' : Nat → Nat → R) : Prop :=
  ∀ a dep dep' r a1, a ≤ L → part a dep = .ok (r, a1) → a1 ≤ L ∧ (dep' ≤ 32 → D dep' → part' (off + a) dep' = .ok (r, off + a1) ∨ ∃ p, part' (off + a) dep' = .error (p, 8))
theorem atom_sim (h : Al T T' L off) {N : Se} {D : Nat → Prop} {alt alt' : Nat → Nat → R} (hs : PSim L off D alt alt') : PSim L off (fun d => D (d + 1)) (atomM N alt T) (atomM N alt' T') := by
  intro a dep dep' r a1 ha hx
  unfold atomM at hx ⊢
  rw [h.isB ha (by decide)]
  split at hx
  · rename_i h1
    rw [if_pos h1]
    have hl := h.lt ha (isB_kind h1)
    split at hx
    · cases hx
    · rcases h2 : alt (a + 1) (dep + 1) with e | ⟨r', a'⟩
      · rw [h2] at hx; cases hx
      · rw [h2] at hx
        simp only at hx
        split at hx
        · rename_i h3
          simp only [Except.ok.injEq, Prod.mk.injEq] at hx
          obtain ⟨rfl, rfl⟩ := hx
          obtain ⟨l1, l2⟩ := hs (a + 1) (dep + 1) (dep' + 1) _ _ hl h2
          have hl' := h.lt l1 (isB_kind h3)
          refine ⟨hl', fun hd hD => ?_⟩
          by_cases hd' : dep' = 32
          · rw [if_pos hd']
            exact .inr ⟨_, rfl⟩
          · rw [if_neg hd', show off + a + 1 = off + (a + 1) by omega]
            rcases l2 (by omega) hD with l2 | ⟨p, l2⟩
            · rw [l2]
              simp only
              rw [isB_same (h.same a' hl'), if_pos h3]
              exact .inl rfl
            · rw [l2]
              exact .inr ⟨p, rfl⟩
        · cases hx
  · rename_i h1
    rw [if_neg h1]
    obtain ⟨l1, l2⟩ := leaf_sim h ha hx
    exact ⟨l1, fun _ _ => .inl l2⟩
theorem rep_sim (h : Al T T' L off) {D : Nat → Prop} {atom atom' : Nat → Nat → R} (hs : PSim L off D atom atom') : PSim L off D (repM atom T) (repM atom' T') := by
  intro a dep dep' r a1 ha hx
  unfold repM at hx ⊢
  rcases h0 : atom a dep with e | ⟨part, a2⟩
  · rw [h0] at hx; cases hx
  · rw [h0] at hx
    simp only at hx
    obtain ⟨l1, l2⟩ := hs a dep dep' _ _ ha h0
    obtain ⟨o1, o2⟩ := often_sim h l1
    -- what stands behind the part, there
    have key : ∀ (X : R), X = (match atom' (off + a) dep' with
        | .error e => .error e
        | .ok (part, a1) =>
          let o := oftenM T' a1
          if o.ok = true then .ok (.mk 8 [] Se.none [part] o.least o.most, o.next) else
          if isB (tokAt T' a1) [123] = true then
            match numberM T' (a1 + 1) 0 with
            | .error e => .error e
            | .ok (lo, a2) =>
              if isB (tokAt T' a2) [44] = true then
                match numberM T' (a2 + 1) lo with
                | .error e => .error e
                | .ok (hi, a3) => if isB (tokAt T' a3) [125] = true then .ok (.mk 8 [] Se.none [part] lo hi, a3 + 1) else .error ((tokAt T' a3).pos, 4)
              else if isB (tokAt T' a2) [125] = true then .ok (.mk 8 [] Se.none [part] lo lo, a2 + 1) else .error ((tokAt T' a2).pos, 4)
          else .ok (part, a1)) → (atom' (off + a) dep' = .ok (part, off + a2) → X = .ok (r, off + a1)) → (dep' ≤ 32 → D dep' → X = .ok (r, off + a1) ∨ ∃ p, X = .error (p, 8)) := by
      intro X hX hgood hd hD
      rcases l2 hd hD with l2 | ⟨p, l2⟩
      · exact .inl (hgood l2)
      · rw [hX, l2]; exact .inr ⟨p, rfl⟩
    split at hx
    · rename_i h1
      simp only [Except.ok.injEq, Prod.mk.injEq] at hx
      obtain ⟨rfl, rfl⟩ := hx
      refine ⟨o1, key _ rfl fun hg => ?_⟩
      rw [hg]
      simp only [o2]
      rw [if_pos h1]
    · rename_i h1
      split at hx
      · rename_i h2
        have hl2 := h.lt l1 (isB_kind h2)
        rcases n1 : numberM T (a2 + 1) 0 with e | ⟨lo, a3⟩
        · rw [n1] at hx; cases hx
        · rw [n1] at hx
          simp only at hx
          obtain ⟨m1, m2⟩ := number_sim h (a := a2 + 1) hl2 n1
          split at hx
          · rename_i h3
            have hl3 := h.lt m1 (isB_kind h3)
            rcases n2 : numberM T (a3 + 1) lo with e | ⟨hi, a4⟩
            · rw [n2] at hx; cases hx
            · rw [n2] at hx
              simp only at hx
              obtain ⟨m3, m4⟩ := number_sim h (a := a3 + 1) hl3 n2
              split at hx
              · rename_i h4
                have hl4 := h.lt m3 (isB_kind h4)
                simp only [Except.ok.injEq, Prod.mk.injEq] at hx
                obtain ⟨rfl, rfl⟩ := hx
                refine ⟨hl4, key _ rfl fun hg => ?_⟩
                rw [hg]
                simp only [o2]
                rw [if_neg h1, h.isB l1 (by decide), if_pos h2, show off + a2 + 1 = off + (a2 + 1) by omega, m2]
                simp only
                rw [h.isB m1 (by decide), if_pos h3, show off + a3 + 1 = off + (a3 + 1) by omega, m4]
                simp only
                rw [h.isB m3 (by decide), if_pos h4]
                rfl
              · cases hx
          · rename_i h3
            split at hx
            · rename_i h4
              have hl4 := h.lt m1 (isB_kind h4)
              simp only [Except.ok.injEq, Prod.mk.injEq] at hx
              obtain ⟨rfl, rfl⟩ := hx
              refine ⟨hl4, key _ rfl fun hg => ?_⟩
              rw [hg]
              simp only [o2]
              rw [if_neg h1, h.isB l1 (by decide), if_pos h2, show off + a2 + 1 = off + (a2 + 1) by omega, m2]
              simp only
              rw [h.isB m1 (by decide), if_neg h3, h.isB m1 (by decide), if_pos h4]
              rfl
            · cases hx
      · rename_i h2
        simp only [Except.ok.injEq, Prod.mk.injEq] at hx
        obtain ⟨rfl, rfl⟩ := hx
        refine ⟨l1, key _ rfl fun hg => ?_⟩
        rw [hg]
        simp only [o2]
        rw [if_neg h1, h.isB l1 (by decide), if_neg h2]
theorem not_sim (h : Al T T' L off) {D : Nat → Prop} (hup : ∀ d, D d → D (d + 1)) {rep rep' : Nat → Nat → R} (hs : PSim L off D rep rep') : ∀ f, PSim L off D (notM rep T f) (notM rep' T' f)
  | 0 => by
    intro a dep dep' r a1 ha hx
    rw [notM] at hx; cases hx
  | f + 1 => by
    intro a dep dep' r a1 ha hx
    rw [notM] at hx
    rw [notM, h.isB ha (by decide)]
    split at hx
    · rename_i h1
      rw [if_pos h1]
      have hl := h.lt ha (isB_kind h1)
      split at hx
      · cases hx
      · rcases h2 : notM rep T f (a + 1) (dep + 1) with e | ⟨r', a'⟩
        · rw [h2] at hx; cases hx
        · rw [h2] at hx
          simp only [Except.ok.injEq, Prod.mk.injEq] at hx
          obtain ⟨rfl, rfl⟩ := hx
          obtain ⟨l1, l2⟩ := not_sim h hup hs f (a + 1) (dep + 1) (dep' + 1) _ _ hl h2
          refine ⟨l1, fun hd hD => ?_⟩
          by_cases hd' : dep' = 32
          · rw [if_pos hd']; exact .inr ⟨_, rfl⟩
          · rw [if_neg hd', show off + a + 1 = off + (a + 1) by omega]
            rcases l2 (by omega) (hup _ hD) with l2 | ⟨p, l2⟩
            · rw [l2]; exact .inl rfl
            · rw [l2]; exact .inr ⟨p, rfl⟩
    · rename_i h1
      rw [if_neg h1]
      exact hs a dep dep' r a1 ha hx
theorem catLoop_sim (h : Al T T' L off) {D : Nat → Prop} {part part' : Nat → Nat → R} (hs : PSim L off D part part') (dep dep' : Nat) : ∀ (f f' : Nat) (l : List Re) (a : Nat) (r : Re) (a1 : Nat), f ≤ f' → a ≤ L → catLoop part T dep f l a = .ok (r, a1) → a1 ≤ L ∧ (dep' ≤ 32 → D dep' → catLoop part' T' dep' f' l (off + a) = .ok (r, off + a1) ∨ ∃ p, catLoop part' T' dep' f' l (off + a) = .error (p, 8))
  | 0, _, _, _, _, _, _, _, hx => by rw [catLoop] at hx; cases hx
  | f + 1, f', l, a, r, a1, hf, ha, hx => by
    obtain ⟨f', rfl⟩ : ∃ g, f' = g + 1 := ⟨f' - 1, by omega⟩
    rw [catLoop] at hx
    rw [catLoop, h.isB ha (by decide), h.begins ha]
    split at hx
    · rename_i h1
      rw [if_pos h1]
      rcases h2 : part a dep with e | ⟨r', a'⟩
      · rw [h2] at hx; cases hx
      · rw [h2] at hx
        obtain ⟨l1, l2⟩ := hs a dep dep' _ _ ha h2
        obtain ⟨m1, m2⟩ := catLoop_sim h hs dep dep' f f' (l ++ [r']) a' r a1 (by omega) l1 hx
        refine ⟨m1, fun hd hD => ?_⟩
        rcases l2 hd hD with l2 | ⟨p, l2⟩
        · rw [l2]; exact m2 hd hD
        · rw [l2]; exact .inr ⟨p, rfl⟩
    · rename_i h1
      rw [if_neg h1]
      simp only [Except.ok.injEq, Prod.mk.injEq] at hx
      obtain ⟨rfl, rfl⟩ := hx
      exact ⟨ha, fun _ _ => .inl rfl⟩
theorem cat_sim (h : Al T T' L off) {D : Nat → Prop} {part part' : Nat → Nat → R} (hs : PSim L off D part part') : PSim L off D (catM part T) (catM part' T') := by
  intro a dep dep' r a1 ha hx
  unfold catM at hx ⊢
  rcases h2 : part a dep with e | ⟨r', a'⟩
  · rw [h2] at hx; cases hx
  · rw [h2] at hx
    obtain ⟨l1, l2⟩ := hs a dep dep' _ _ ha h2
    have hlen := h.len
    obtain ⟨m1, m2⟩ := catLoop_sim h hs dep dep' (T.length + 1) (T'.length + 1) [r'] a' r a1 (by omega) l1 hx
    refine ⟨m1, fun hd hD => ?_⟩
    rcases l2 hd hD with l2 | ⟨p, l2⟩
    · rw [l2]; exact m2 hd hD
    · rw [l2]; exact .inr ⟨p, rfl⟩
theorem rowLoop_sim (h : Al T T' L off) {D : Nat → Prop} {part part' : Nat → Nat → R} (hs : PSim L off D part part') (dep dep' : Nat) (kind : Int) {c : B} (hc : c ≠ 41) : ∀ (f f' : Nat) (l : List Re) (a : Nat) (r : Re) (a1 : Nat), f ≤ f' → a ≤ L → rowLoop part T dep kind [c] f l a = .ok (r, a1) → a1 ≤ L ∧ (dep' ≤ 32 → D dep' → rowLoop part' T' dep' kind [c] f' l (off + a) = .ok (r, off + a1) ∨ ∃ p, rowLoop part' T' dep' kind [c] f' l (off + a) = .error (p, 8))
  | 0, _, _, _, _, _, _, _, hx => by rw [rowLoop] at hx; cases hx
  | f + 1, f', l, a, r, a1, hf, ha, hx => by
    obtain ⟨f', rfl⟩ : ∃ g, f' = g + 1 := ⟨f' - 1, by omega⟩
    rw [rowLoop] at hx
    rw [rowLoop, h.isB ha hc]
    split at hx
    · rename_i h1
      rw [if_pos h1]
      have hl := h.lt ha (isB_kind h1)
      rcases h2 : part (a + 1) dep with e | ⟨r', a'⟩
      · rw [h2] at hx; cases hx
      · rw [h2] at hx
        obtain ⟨l1, l2⟩ := hs (a + 1) dep dep' _ _ hl h2
        obtain ⟨m1, m2⟩ := rowLoop_sim h hs dep dep' kind hc f f' (l ++ [r']) a' r a1 (by omega) l1 hx
        refine ⟨m1, fun hd hD => ?_⟩
        rw [show off + a + 1 = off + (a + 1) by omega]
        rcases l2 hd hD with l2 | ⟨p, l2⟩
        · rw [l2]; exact m2 hd hD
        · rw [l2]; exact .inr ⟨p, rfl⟩
    · rename_i h1
      rw [if_neg h1]
      simp only [Except.ok.injEq, Prod.mk.injEq] at hx
      obtain ⟨rfl, rfl⟩ := hx
      exact ⟨ha, fun _ _ => .inl rfl⟩
theorem row_sim (h : Al T T' L off) {D : Nat → Prop} {part part' : Nat → Nat → R} (hs : PSim L off D part part') (kind : Int) {c : B} (hc : c ≠ 41) : PSim L off D (rowM kind [c] part T) (rowM kind [c] part' T') := by
  intro a dep dep' r a1 ha hx
  unfold rowM at hx ⊢
  rcases h2 : part a dep with e | ⟨r', a'⟩
  · rw [h2] at hx; cases hx
  · rw [h2] at hx
    obtain ⟨l1, l2⟩ := hs a dep dep' _ _ ha h2
    have hlen := h.len
    obtain ⟨m1, m2⟩ := rowLoop_sim h hs dep dep' kind hc (T.length + 1) (T'.length + 1) [r'] a' r a1 (by omega) l1 hx
    refine ⟨m1, fun hd hD => ?_⟩
    rcases l2 hd hD with l2 | ⟨p, l2⟩
    · rw [l2]; exact m2 hd hD
    · rw [l2]; exact .inr ⟨p, rfl⟩
theorem alt_sim (h : Al T T' L off) (N : Se) : ∀ n n', PSim L off (fun d => 33 ≤ n' + d) (altM N T n) (altM N T' n')
  | 0, n' => by
    intro a dep dep' r a1 ha hx
    rw [altM] at hx; cases hx
  | n + 1, 0 => by
    intro a dep dep' r a1 ha hx
    have ih := alt_sim h N n 0
    have hb := row_sim h (row_sim h (cat_sim h (not_sim h (fun _ h => h) (rep_sim h (D := fun _ => False) (atom' := atomM N (altM N T' 0) T') fun a dep dep' r a1 ha hx => ⟨((atom_sim h (N := N) ih) a dep dep' r a1 ha hx).1, fun _ hF => hF.elim⟩) 40)) 6 (c := 38) (by decide)) 5 (c := 124) (by decide)
    unfold altM at hx
    refine ⟨(hb a dep dep' r a1 ha hx).1, fun h1 h2 => ?_⟩
    simp only at h2
    omega
  | n + 1, n' + 1 => by
    have ih := alt_sim h N n n'
    have h1 := atom_sim h (N := N) ih
    have h2 : PSim L off (fun d => 33 ≤ n' + (d + 1)) _ _ := rep_sim h h1
    have h3 := not_sim h (fun d (hd : 33 ≤ n' + (d + 1)) => (by omega : 33 ≤ n' + (d + 1 + 1))) h2 40
    have h4 := row_sim h (row_sim h (cat_sim h h3) 6 (c := 38) (by decide)) 5 (c := 124) (by decide)
    intro a dep dep' r a1 ha hx
    unfold altM at hx ⊢
    obtain ⟨l1, l2⟩ := h4 a dep dep' r a1 ha hx
    exact ⟨l1, fun hd hD => l2 hd (by omega)⟩
end
end Go.Proofs.YtfljcfdfgojdoaaGreatDoor
