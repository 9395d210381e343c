/-
  Every expression that the parser tells of tokens that the lexer gave may be, of no more than 133 levels; no program in sight.
-/
import Derived.Test.YtcedjjlflahpcaaBrk
import Derived.Test.YtcedjjlflahpcaaAwk
namespace Go.Proofs.Ytcedjjlflahpcaa
open Go.Lib

/-- what the parser relies on in a token -/
structure TokOk (t : Tok) : Prop where
  text : t.kind = 2 → t.text.length ≤ 256
  name : t.kind = 1 → t.text.length ≤ 31 ∧ (nextL 0 t.text).err = 0 ∧ (nextL 0 t.text).tok.kind = 1 ∧ (nextL 0 t.text).tok.text = t.text
theorem TokOk.base {t t' : Tok} (h : TokOk t) (he : t'.base = t.base) : TokOk t' := by
  obtain ⟨h1, h2, _, _⟩ := base_parts he
  exact ⟨fun hk => by rw [h2]; exact h.text (h1 ▸ hk), fun hk => by rw [h2]; exact h.name (h1 ▸ hk)⟩
theorem takeWhile_twice (p : B → Bool) : ∀ l : List B, (l.takeWhile p).takeWhile p = l.takeWhile p
  | [] => rfl
  | c :: l => by
    rw [List.takeWhile_cons]
    split
    · rename_i hc
      rw [List.takeWhile_cons, if_pos hc, takeWhile_twice p l]
    · rfl
theorem white_letter {c : B} {r : List B} (h : letterB c.toNat = true) : white false (c :: r) = c :: r := by
  have h1 : ¬ (((c.toNat : Int) == 32) = true ∨ ((c.toNat : Int) == 10) = true ∨ ((c.toNat : Int) == 13) = true ∨ ((c.toNat : Int) == 9) = true) := by
    simp only [beq_iff_eq]
    simp [letterB] at h
    omega
  have h2 : ¬ ((c.toNat : Int) == 35) = true := by
    simp only [beq_iff_eq]
    simp [letterB] at h
    omega
  rw [white, if_neg h1, if_neg h2]
theorem name_again {c : B} {r : List B} {t : Tok} {n : Nat} (hl : letterB c.toNat = true) (h : nameL (c :: r) = .ok (t, n)) : t.text.length ≤ 31 ∧ (nextL 0 t.text).err = 0 ∧ (nextL 0 t.text).tok.kind = 1 ∧ (nextL 0 t.text).tok.text = t.text := by
  unfold nameL at h
  split at h
  · cases h
  · rename_i hn
    simp only [Except.ok.injEq, Prod.mk.injEq] at h
    obtain ⟨rfl, rfl⟩ := h
    simp only
    have hle : nameLen (c :: r) ≤ (c :: r).length := take_while_len _ _
    have htk : (c :: r).take (nameLen (c :: r)) = (c :: r).takeWhile nameB := by
      unfold nameLen
      exact (List.prefix_iff_eq_take.1 (List.takeWhile_prefix nameB)).symm
    have hc : nameB c = true := by simp [nameB, hl]
    have hlen : ((c :: r).takeWhile nameB).length = nameLen (c :: r) := rfl
    have hcons : (c :: r).takeWhile nameB = c :: r.takeWhile nameB := by rw [List.takeWhile_cons, if_pos hc]
    have hall : ((c :: r).takeWhile nameB).takeWhile nameB = (c :: r).takeWhile nameB := takeWhile_twice _ _
    rw [htk]
    have hnl : nameLen ((c :: r).takeWhile nameB) = nameLen (c :: r) := by
      unfold nameLen; rw [hall]
    have hnm : nameL ((c :: r).takeWhile nameB) = .ok (⟨1, (c :: r).takeWhile nameB, Se.none, 0, 0⟩, nameLen (c :: r)) := by
      unfold nameL
      rw [hnl, if_neg hn]
      congr 2
      rw [← hlen, List.take_length]
    refine ⟨by rw [hlen]; omega, ?_⟩
    rw [hcons] at hnm ⊢
    have ht : tokenL (c :: r.takeWhile nameB) = .ok (⟨1, c :: r.takeWhile nameB, Se.none, 0, 0⟩, nameLen (c :: r)) := by
      unfold tokenL
      simp only
      rw [if_pos hl]
      exact hnm
    rw [nextL_of (white_letter hl) ht]
    exact ⟨rfl, rfl, rfl⟩
theorem tokenL_okt {r : List B} {t : Tok} {n : Nat} (h : tokenL r = .ok (t, n)) : TokOk t := by
  rcases r with _ | ⟨c, r⟩
  · cases h
  · unfold tokenL at h
    simp only at h
    split at h
    · rename_i hl
      have hk : t.kind = 1 := by
        unfold nameL at h; split at h <;> cases h; rfl
      exact ⟨fun h2 => absurd (hk.symm.trans h2) (by decide), fun _ => name_again hl h⟩
    · split at h
      · have hk : t.kind = 5 := by
          unfold numL at h; split at h <;> cases h; rfl
        exact ⟨fun h2 => absurd (hk.symm.trans h2) (by decide), fun h2 => absurd (hk.symm.trans h2) (by decide)⟩
      · split at h
        · obtain ⟨m, hm, rfl⟩ := bump_ok h
          unfold quotedL at hm
          split at hm
          · cases hm
          · split at hm
            · cases hm
            · rename_i hlen
              cases hm
              exact ⟨fun _ => by dsimp only; omega, fun h2 => by simp at h2⟩
        · split at h
          · obtain ⟨m, hm, rfl⟩ := bump_ok h
            have hk : t.kind = 3 := by
              unfold bytesL at hm
              split at hm
              · exact (setFin_ok hm).1
              · split at hm
                · exact (setFin_ok hm).1
                · exact (setFin_ok hm).1
            exact ⟨fun h2 => absurd (hk.symm.trans h2) (by decide), fun h2 => absurd (hk.symm.trans h2) (by decide)⟩
          · have hk : t.kind = 4 := by
              unfold signL at h
              split at h
              · cases h; rfl
              · split at h
                · cases h
                · split at h <;> cases h; rfl
            exact ⟨fun h2 => absurd (hk.symm.trans h2) (by decide), fun h2 => absurd (hk.symm.trans h2) (by decide)⟩
theorem lexes_okt {r : List B} {l : List Tok} (h : Lexes r l) : ∀ t ∈ l, TokOk t := by
  induction h with
  | stop _ => intro t ht; cases ht
  | step h ht hl ih =>
    intro t' ht'
    rcases List.mem_cons.1 ht' with rfl | hm
    · exact tokenL_okt ht
    · exact ih _ hm
/-- a function of the parser tells expressions that may be, of no more than so many levels -/
def POk (H : Nat → Nat) (part : Nat → Nat → R) : Prop := ∀ a dep r a1, dep ≤ 32 → part a dep = .ok (r, a1) → OkRe (H dep) r
section
variable {T : List Tok} (hT : ∀ i, TokOk (tokAt T i))
include hT
theorem leaf_okr {N : Se} {a : Nat} {r : Re} {a1 : Nat} (h : leafM N T a = .ok (r, a1)) : OkRe 1 r := by
  have ht := hT a
  unfold leafM at h
  simp only at h
  split at h
  · rename_i h1
    simp only [Except.ok.injEq, Prod.mk.injEq] at h
    obtain ⟨rfl, rfl⟩ := h
    unfold OkRe
    exact ⟨.text _ (ht.text (by simpa using h1)), by simp⟩
  · split at h
    · simp only [Except.ok.injEq, Prod.mk.injEq] at h
      obtain ⟨rfl, rfl⟩ := h
      unfold OkRe
      exact ⟨.set _, by simp⟩
    · split at h
      · rename_i h1
        unfold nameM at h
        simp only at h
        split at h
        · cases h
        · rename_i s a' hx
          split at hx
          · cases hx
          · rename_i hr
            split at hx
            · cases hx
            · simp only [Except.ok.injEq, Prod.mk.injEq] at hx h
              obtain ⟨rfl, rfl⟩ := hx
              obtain ⟨rfl, rfl⟩ := h
              unfold OkRe
              obtain ⟨n1, n2, n3, n4⟩ := ht.name (by simpa using h1)
              refine ⟨.name _ ?_ n1, by simp⟩
              have hs : sfx ⟨(tokAt T a).text.toArray⟩ 0 = (tokAt T a).text := by simp [sfx]
              have hl : (⟨(tokAt T a).text.toArray⟩ : ByteArray).toList = (tokAt T a).text := by rw [ByteArray.toList_eq]
              unfold NameOk
              rw [hs, hl]
              exact ⟨n2, n3, n4, by simpa using hr⟩
      · split at h
        · simp only [Except.ok.injEq, Prod.mk.injEq] at h
          obtain ⟨rfl, rfl⟩ := h
          unfold OkRe
          exact ⟨.set _, by simp⟩
        · cases h
theorem atom_okr {N : Se} {H : Nat → Nat} (hH : ∀ d, 1 ≤ H d) {alt : Nat → Nat → R} (ha : POk H alt) : POk (fun d => H (d + 1)) (atomM N alt T) := by
  intro a dep r a1 hd h
  unfold atomM at h
  split at h
  · split at h
    · cases h
    · rename_i h2
      rcases h3 : alt (a + 1) (dep + 1) with e | ⟨r', a'⟩
      · rw [h3] at h; cases h
      · rw [h3] at h
        simp only at h
        split at h
        · simp only [Except.ok.injEq, Prod.mk.injEq] at h
          obtain ⟨rfl, rfl⟩ := h
          exact ha _ _ _ _ (by omega) h3
        · cases h
  · exact (leaf_okr hT h).up (hH _)
omit hT in
theorem one_part {k : Int} {n : Nat} {p : Re} {mn mx : Int} (hn : Node k [] Se.none 1 mn mx) (hp : OkRe n p) : OkRe (n + 1) (.mk k [] Se.none [p] mn mx) := by
  unfold OkRe
  exact ⟨hn, fun q hq => by simp at hq; subst hq; exact hp⟩
omit hT in
theorem numberM_rng {a a1 : Nat} {lo v : Int} (h : numberM T a lo = .ok (v, a1)) : lo ≤ v ∧ v ≤ 64 := by
  unfold numberM at h
  simp only at h
  split at h
  · cases h
  · rename_i h1
    simp only [Except.ok.injEq, Prod.mk.injEq] at h
    obtain ⟨rfl, rfl⟩ := h
    omega
omit hT in
theorem rep_okr {H : Nat → Nat} {atom : Nat → Nat → R} (ha : POk H atom) : POk (fun d => H d + 1) (repM atom T) := by
  intro a dep r a1 hd h
  unfold repM at h
  rcases h0 : atom a dep with e | ⟨part, a2⟩
  · rw [h0] at h; cases h
  · rw [h0] at h
    have hp := ha a dep _ _ hd h0
    simp only at h
    split at h
    · rename_i h1
      simp only [Except.ok.injEq, Prod.mk.injEq] at h
      obtain ⟨rfl, rfl⟩ := h
      refine one_part (.rep _ _ ?_) hp
      unfold oftenM at h1 ⊢
      simp only at h1 ⊢
      split
      · exact .inl ⟨rfl, .inl rfl⟩
      · split
        · exact .inl ⟨rfl, .inr rfl⟩
        · split
          · exact .inr ⟨by simp, by simp, by simp, by simp⟩
          · rename_i e1 e2 e3
            rw [if_neg e1, if_neg e2, if_neg e3] at h1
            cases h1
    · split at h
      · rcases n1 : numberM T (a2 + 1) 0 with e | ⟨lo, a3⟩
        · rw [n1] at h; cases h
        · rw [n1] at h
          have b1 := numberM_rng n1
          simp only at h
          split at h
          · rcases n2 : numberM T (a3 + 1) lo with e | ⟨hi, a4⟩
            · rw [n2] at h; cases h
            · rw [n2] at h
              have b2 := numberM_rng n2
              simp only at h
              split at h
              · simp only [Except.ok.injEq, Prod.mk.injEq] at h
                obtain ⟨rfl, rfl⟩ := h
                exact one_part (.rep _ _ (.inr ⟨by omega, by omega, by omega, by omega⟩)) hp
              · cases h
          · split at h
            · simp only [Except.ok.injEq, Prod.mk.injEq] at h
              obtain ⟨rfl, rfl⟩ := h
              exact one_part (.rep _ _ (.inr ⟨by omega, by omega, by omega, by omega⟩)) hp
            · cases h
      · simp only [Except.ok.injEq, Prod.mk.injEq] at h
        obtain ⟨rfl, rfl⟩ := h
        exact hp.up (Nat.le_succ _)
omit hT in
theorem not_okr {H : Nat → Nat} (hH : ∀ d, d < 32 → H (d + 1) + 1 ≤ H d) {rep : Nat → Nat → R} (ha : POk H rep) : ∀ f, POk H (notM rep T f)
  | 0 => by
    intro a dep r a1 hd h
    rw [notM] at h; cases h
  | f + 1 => by
    intro a dep r a1 hd h
    rw [notM] at h
    split at h
    · split at h
      · cases h
      · rename_i h2
        rcases h3 : notM rep T f (a + 1) (dep + 1) with e | ⟨r', a'⟩
        · rw [h3] at h; cases h
        · rw [h3] at h
          simp only [Except.ok.injEq, Prod.mk.injEq] at h
          obtain ⟨rfl, rfl⟩ := h
          exact (one_part .not (not_okr hH ha f (a + 1) (dep + 1) _ _ (by omega) h3)).up (hH dep (by omega))
    · exact ha _ _ _ _ hd h
omit hT in
theorem joined_okr {k : Int} (hk : ∀ n, 2 ≤ n → Node k [] Se.none n 0 0) {n : Nat} {l : List Re} (hl : ∀ p ∈ l, OkRe n p) (h1 : 1 ≤ l.length) : OkRe (n + 1) (joinedM k l) := by
  rcases l with _ | ⟨p, _ | ⟨q, l⟩⟩
  · simp at h1
  · exact (hl p (by simp)).up (Nat.le_succ _)
  · unfold joinedM OkRe
    exact ⟨hk _ (by simp), hl⟩
omit hT in
theorem catLoop_okr {n : Nat} {part : Nat → Nat → R} {dep : Nat} (hp : ∀ a r a1, part a dep = .ok (r, a1) → OkRe n r) : ∀ (f : Nat) (l : List Re) (a : Nat) (r : Re) (a1 : Nat), (∀ p ∈ l, OkRe n p) → 1 ≤ l.length → catLoop part T dep f l a = .ok (r, a1) → OkRe (n + 1) r
  | 0, _, _, _, _, _, _, h => by rw [catLoop] at h; cases h
  | f + 1, l, a, r, a1, hl, h1, h => by
    rw [catLoop] at h
    split at h
    · rcases h2 : part a dep with e | ⟨r', a'⟩
      · rw [h2] at h; cases h
      · rw [h2] at h
        refine catLoop_okr hp f (l ++ [r']) a' r a1 (fun p hm => ?_) (by simp) h
        rcases List.mem_append.1 hm with hm | hm
        · exact hl p hm
        · simp at hm; subst hm; exact hp _ _ _ h2
    · simp only [Except.ok.injEq, Prod.mk.injEq] at h
      obtain ⟨rfl, rfl⟩ := h
      exact joined_okr (fun n hn => .cat n hn) hl h1
omit hT in
theorem cat_okr {H : Nat → Nat} {part : Nat → Nat → R} (hp : POk H part) : POk (fun d => H d + 1) (catM part T) := by
  intro a dep r a1 hd h
  unfold catM at h
  rcases h2 : part a dep with e | ⟨r', a'⟩
  · rw [h2] at h; cases h
  · rw [h2] at h
    exact catLoop_okr (fun a r a1 h => hp a dep r a1 hd h) _ _ _ _ _ (fun p hm => by simp at hm; subst hm; exact hp _ _ _ _ hd h2) (by simp) h
omit hT in
theorem rowLoop_okr {n : Nat} {part : Nat → Nat → R} {dep : Nat} {k : Int} {s : List B} (hk : ∀ n, 2 ≤ n → Node k [] Se.none n 0 0) (hp : ∀ a r a1, part a dep = .ok (r, a1) → OkRe n r) : ∀ (f : Nat) (l : List Re) (a : Nat) (r : Re) (a1 : Nat), (∀ p ∈ l, OkRe n p) → 1 ≤ l.length → rowLoop part T dep k s f l a = .ok (r, a1) → OkRe (n + 1) r
  | 0, _, _, _, _, _, _, h => by rw [rowLoop] at h; cases h
  | f + 1, l, a, r, a1, hl, h1, h => by
    rw [rowLoop] at h
    split at h
    · rcases h2 : part (a + 1) dep with e | ⟨r', a'⟩
      · rw [h2] at h; cases h
      · rw [h2] at h
        refine rowLoop_okr hk hp f (l ++ [r']) a' r a1 (fun p hm => ?_) (by simp) h
        rcases List.mem_append.1 hm with hm | hm
        · exact hl p hm
        · simp at hm; subst hm; exact hp _ _ _ h2
    · simp only [Except.ok.injEq, Prod.mk.injEq] at h
      obtain ⟨rfl, rfl⟩ := h
      exact joined_okr hk hl h1
omit hT in
theorem row_okr {H : Nat → Nat} {part : Nat → Nat → R} {k : Int} {s : List B} (hk : ∀ n, 2 ≤ n → Node k [] Se.none n 0 0) (hp : POk H part) : POk (fun d => H d + 1) (rowM k s part T) := by
  intro a dep r a1 hd h
  unfold rowM at h
  rcases h2 : part a dep with e | ⟨r', a'⟩
  · rw [h2] at h; cases h
  · rw [h2] at h
    exact rowLoop_okr hk (fun a r a1 h => hp a dep r a1 hd h) _ _ _ _ _ (fun p hm => by simp at hm; subst hm; exact hp _ _ _ _ hd h2) (by simp) h
theorem alt_okr (N : Se) : ∀ n, POk (fun d => 4 * (33 - d) + 1) (altM N T n)
  | 0 => by
    intro a dep r a1 hd h
    rw [altM] at h; cases h
  | n + 1 => by
    have h1 := atom_okr hT (N := N) (H := fun d => 4 * (33 - d) + 1) (fun d => by omega) (alt_okr N n)
    have h2 : POk (fun d => 4 * (32 - d) + 2) (repM (atomM N (altM N T n) T) T) := fun a dep r a1 hd h => (rep_okr h1 a dep r a1 hd h).up (by show _ ≤ _; simp only; omega)
    intro a dep r a1 hd h
    have h3 : POk (fun d => 4 * (33 - d) - 2) (notM (repM (atomM N (altM N T n) T) T) T 40) := by
      exact not_okr (fun d hd => by omega) (fun a dep r a1 hd h => (h2 a dep r a1 hd h).up (by show _ ≤ _; simp only; omega)) 40
    unfold altM at h
    exact (row_okr (fun n hn => .alt n hn) (row_okr (fun n hn => .and n hn) (cat_okr h3)) a dep r a1 hd h).up (by show _ ≤ _; simp only; omega)
end
end Go.Proofs.Ytcedjjlflahpcaa
