/-
  Every expression that the parser tells of tokens that the lexer gave may be, of no more than 133 levels; no program in sight.
  parse.deep, parse.right, parse.Check as they are: the contracts both ways.
  parse.mayBeName, mayBeOften, right as they are.
  parse.right as it is, kind by kind. (Printed by genRt.py.)
-/
import Derived.Test.YtfljcfdfgojdoaaGreatDoorAa36
import Derived.Test.YtfljcfdfgojdoaaGreatDoorAa35
namespace Go.Proofs.YtfljcfdfgojdoaaGreatDoor
open Go.Lib

/-- what the parser relies on in a token -/
structure TokOk (t : Tok) : Prop where
  text : t.kind = 2 → t.text.length ≤ 256
  name : t.kind = 1 → t.text.length ≤ 31 ∧ (nextL 0 t.text).err = 0 ∧ (nextL 0 t.text).tok.kind = 1 ∧ (nextL 0 t.text).tok.text = t.text
theorem TokOk.base {t t' : Tok} (h : TokOk t) (he : t'.base = t.base) : TokOk t' := by
  obtain ⟨h1, h2, _, _⟩ := base_parts he
  exact ⟨fun hk => by rw [h2]; exact h.text (h1 ▸ hk), fun hk => by rw [h2]; exact h.name (h1 ▸ hk)⟩
theorem takeWhile_twice (p : B → Bool) : ∀ l : List B, (l.takeWhile p).takeWhile p = l.takeWhile p
  | [] => rfl
  | c :: l => by
    rw [List.takeWhile_cons]
    split
    · rename_i hc
      rw [List.takeWhile_cons, if_pos hc, takeWhile_twice p l]
    · rfl
theorem white_letter {c : B} {r : List B} (h : letterB c.toNat = true) : white false (c :: r) = c :: r := by
  have h1 : ¬ (((c.toNat : Int) == 32) = true ∨ ((c.toNat : Int) == 10) = true ∨ ((c.toNat : Int) == 13) = true ∨ ((c.toNat : Int) == 9) = true) := by
    simp only [beq_iff_eq]
    simp [letterB] at h
    omega
  have h2 : ¬ ((c.toNat : Int) == 35) = true := by
    simp only [beq_iff_eq]
    simp [letterB] at h
    omega
  rw [white, if_neg h1, if_neg h2]
theorem name_again {c : B} {r : List B} {t : Tok} {n : Nat} (hl : letterB c.toNat = true) (h : nameL (c :: r) = .ok (t, n)) : t.text.length ≤ 31 ∧ (nextL 0 t.text).err = 0 ∧ (nextL 0 t.text).tok.kind = 1 ∧ (nextL 0 t.text).tok.text = t.text := by
  unfold nameL at h
  split at h
  · cases h
  · rename_i hn
    simp only [Except.ok.injEq, Prod.mk.injEq] at h
    obtain ⟨rfl, rfl⟩ := h
    simp only
    have hle : nameLen (c :: r) ≤ (c :: r).length := take_while_len _ _
    have htk : (c :: r).take (nameLen (c :: r)) = (c :: r).takeWhile nameB := by
      unfold nameLen
      exact (List.prefix_iff_eq_take.1 (List.takeWhile_prefix nameB)).symm
    have hc : nameB c = true := by simp [nameB, hl]
    have hlen : ((c :: r).takeWhile nameB).length = nameLen (c :: r) := rfl
    have hcons : (c :: r).takeWhile nameB = c :: r.takeWhile nameB := by rw [List.takeWhile_cons, if_pos hc]
    have hall : ((c :: r).takeWhile nameB).takeWhile nameB = (c :: r).takeWhile nameB := takeWhile_twice _ _
    rw [htk]
    have hnl : nameLen ((c :: r).takeWhile nameB) = nameLen (c :: r) := by
      unfold nameLen; rw [hall]
    have hnm : nameL ((c :: r).takeWhile nameB) = .ok (⟨1, (c :: r).takeWhile nameB, Se.none, 0, 0⟩, nameLen (c :: r)) := by
      unfold nameL
      rw [hnl, if_neg hn]
      congr 2
      rw [← hlen, List.take_length]
    refine ⟨by rw [hlen]; omega, ?_⟩
    rw [hcons] at hnm ⊢
    have ht : tokenL (c :: r.takeWhile nameB) = .ok (⟨1, c :: r.takeWhile nameB, Se.none, 0, 0⟩, nameLen (c :: r)) := by
      unfold tokenL
      simp only
      rw [if_pos hl]
      exact hnm
    rw [nextL_of (white_letter hl) ht]
    exact ⟨rfl, rfl, rfl⟩
theorem tokenL_okt {r : List B} {t : Tok} {n : Nat} (h : tokenL r = .ok (t, n)) : TokOk t := by
  rcases r with _ | ⟨c, r⟩
  · cases h
  · unfold tokenL at h
    simp only at h
    split at h
    · rename_i hl
      have hk : t.kind = 1 := by
        unfold nameL at h; split at h <;> cases h; rfl
      exact ⟨fun h2 => absurd (hk.symm.trans h2) (by decide), fun _ => name_again hl h⟩
    · split at h
      · have hk : t.kind = 5 := by
          unfold numL at h; split at h <;> cases h; rfl
        exact ⟨fun h2 => absurd (hk.symm.trans h2) (by decide), fun h2 => absurd (hk.symm.trans h2) (by decide)⟩
      · split at h
        · obtain ⟨m, hm, rfl⟩ := bump_ok h
          unfold quotedL at hm
          split at hm
          · cases hm
          · split at hm
            · cases hm
            · rename_i hlen
              cases hm
              exact ⟨fun _ => by dsimp only; omega, fun h2 => by simp at h2⟩
        · split at h
          · obtain ⟨m, hm, rfl⟩ := bump_ok h
            have hk : t.kind = 3 := by
              unfold bytesL at hm
              split at hm
              · exact (setFin_ok hm).1
              · split at hm
                · exact (setFin_ok hm).1
                · exact (setFin_ok hm).1
            exact ⟨fun h2 => absurd (hk.symm.trans h2) (by decide), fun h2 => absurd (hk.symm.trans h2) (by decide)⟩
          · have hk : t.kind = 4 := by
              unfold signL at h
              split at h
              · cases h; rfl
              · split at h
                · cases h
                · split at h <;> cases h; rfl
            exact ⟨fun h2 => absurd (hk.symm.trans h2) (by decide), fun h2 => absurd (hk.symm.trans h2) (by decide)⟩
theorem lexes_okt {r : List B} {l : List Tok} (h : Lexes r l) : ∀ t ∈ l, TokOk t := by
  induction h with
  | stop _ => intro t ht; cases ht
  | step h ht hl ih =>
    intro t' ht'
    rcases List.mem_cons.1 ht' with rfl | hm
    · exact tokenL_okt ht
    · exact ih _ hm
/-- a function of the parser tells expressions that may be, of no more than so many levels -/
def POk (H : Nat → Nat) (part : Nat → Nat → R) : Prop := ∀ a dep r a1, dep ≤ 32 → part a dep = .ok (r, a1) → OkRe (H dep) r
section
variable {T : List Tok} (hT : ∀ i, TokOk (tokAt T i))
include hT
theorem leaf_okr {N : Se} {a : Nat} {r : Re} {a1 : Nat} (h : leafM N T a = .ok (r, a1)) : OkRe 1 r := by
  have ht := hT a
  unfold leafM at h
  simp only at h
  split at h
  · rename_i h1
    simp only [Except.ok.injEq, Prod.mk.injEq] at h
    obtain ⟨rfl, rfl⟩ := h
    unfold OkRe
    exact ⟨.text _ (ht.text (by simpa using h1)), by simp⟩
  · split at h
    · simp only [Except.ok.injEq, Prod.mk.injEq] at h
      obtain ⟨rfl, rfl⟩ := h
      unfold OkRe
      exact ⟨.set _, by simp⟩
    · split at h
      · rename_i h1
        unfold nameM at h
        simp only at h
        split at h
        · cases h
        · rename_i s a' hx
          split at hx
          · cases hx
          · rename_i hr
            split at hx
            · cases hx
            · simp only [Except.ok.injEq, Prod.mk.injEq] at hx h
              obtain ⟨rfl, rfl⟩ := hx
              obtain ⟨rfl, rfl⟩ := h
              unfold OkRe
              obtain ⟨n1, n2, n3, n4⟩ := ht.name (by simpa using h1)
              refine ⟨.name _ ?_ n1, by simp⟩
              have hs : sfx ⟨(tokAt T a).text.toArray⟩ 0 = (tokAt T a).text := by simp [sfx]
              have hl : (⟨(tokAt T a).text.toArray⟩ : ByteArray).toList = (tokAt T a).text := by rw [ByteArray.toList_eq]
              unfold NameOk
              rw [hs, hl]
              exact ⟨n2, n3, n4, by simpa using hr⟩
      · split at h
        · simp only [Except.ok.injEq, Prod.mk.injEq] at h
          obtain ⟨rfl, rfl⟩ := h
          unfold OkRe
          exact ⟨.set _, by simp⟩
        · cases h
theorem atom_okr {N : Se} {H : Nat → Nat} (hH : ∀ d, 1 ≤ H d) {alt : Nat → Nat → R} (ha : POk H alt) : POk (fun d => H (d + 1)) (atomM N alt T) := by
  intro a dep r a1 hd h
  unfold atomM at h
  split at h
  · split at h
    · cases h
    · rename_i h2
      rcases h3 : alt (a + 1) (dep + 1) with e | ⟨r', a'⟩
      · rw [h3] at h; cases h
      · rw [h3] at h
        simp only at h
        split at h
        · simp only [Except.ok.injEq, Prod.mk.injEq] at h
          obtain ⟨rfl, rfl⟩ := h
          exact ha _ _ _ _ (by omega) h3
        · cases h
  · exact (leaf_okr hT h).up (hH _)
omit hT in
theorem one_part {k : Int} {n : Nat} {p : Re} {mn mx : Int} (hn : Node k [] Se.none 1 mn mx) (hp : OkRe n p) : OkRe (n + 1) (.mk k [] Se.none [p] mn mx) := by
  unfold OkRe
  exact ⟨hn, fun q hq => by simp at hq; subst hq; exact hp⟩
omit hT in
theorem numberM_rng {a a1 : Nat} {lo v : Int} (h : numberM T a lo = .ok (v, a1)) : lo ≤ v ∧ v ≤ 64 := by
  unfold numberM at h
  simp only at h
  split at h
  · cases h
  · rename_i h1
    simp only [Except.ok.injEq, Prod.mk.injEq] at h
    obtain ⟨rfl, rfl⟩ := h
    omega
omit hT in
theorem rep_okr {H : Nat → Nat} {atom : Nat → Nat → R} (ha : POk H atom) : POk (fun d => H d + 1) (repM atom T) := by
  intro a dep r a1 hd h
  unfold repM at h
  rcases h0 : atom a dep with e | ⟨part, a2⟩
  · rw [h0] at h; cases h
  · rw [h0] at h
    have hp := ha a dep _ _ hd h0
    simp only at h
    split at h
    · rename_i h1
      simp only [Except.ok.injEq, Prod.mk.injEq] at h
      obtain ⟨rfl, rfl⟩ := h
      refine one_part (.rep _ _ ?_) hp
      unfold oftenM at h1 ⊢
      simp only at h1 ⊢
      split
      · exact .inl ⟨rfl, .inl rfl⟩
      · split
        · exact .inl ⟨rfl, .inr rfl⟩
        · split
          · exact .inr ⟨by simp, by simp, by simp, by simp⟩
          · rename_i e1 e2 e3
            rw [if_neg e1, if_neg e2, if_neg e3] at h1
            cases h1
    · split at h
      · rcases n1 : numberM T (a2 + 1) 0 with e | ⟨lo, a3⟩
        · rw [n1] at h; cases h
        · rw [n1] at h
          have b1 := numberM_rng n1
          simp only at h
          split at h
          · rcases n2 : numberM T (a3 + 1) lo with e | ⟨hi, a4⟩
            · rw [n2] at h; cases h
            · rw [n2] at h
              have b2 := numberM_rng n2
              simp only at h
              split at h
              · simp only [Except.ok.injEq, Prod.mk.injEq] at h
                obtain ⟨rfl, rfl⟩ := h
                exact one_part (.rep _ _ (.inr ⟨by omega, by omega, by omega, by omega⟩)) hp
              · cases h
          · split at h
            · simp only [Except.ok.injEq, Prod.mk.injEq] at h
              obtain ⟨rfl, rfl⟩ := h
              exact one_part (.rep _ _ (.inr ⟨by omega, by omega, by omega, by omega⟩)) hp
            · cases h
      · simp only [Except.ok.injEq, Prod.mk.injEq] at h
        obtain ⟨rfl, rfl⟩ := h
        exact hp.up (Nat.le_succ _)
omit hT in
theorem not_okr {H : Nat → Nat} (hH : ∀ d, d < 32 → H (d + 1) + 1 ≤ H d) {rep : Nat → Nat → R} (ha : POk H rep) : ∀ f, POk H (notM rep T f)
  | 0 => by
    intro a dep r a1 hd h
    rw [notM] at h; cases h
  | f + 1 => by
    intro a dep r a1 hd h
    rw [notM] at h
    split at h
    · split at h
      · cases h
      · rename_i h2
        rcases h3 : notM rep T f (a + 1) (dep + 1) with e | ⟨r', a'⟩
        · rw [h3] at h; cases h
        · rw [h3] at h
          simp only [Except.ok.injEq, Prod.mk.injEq] at h
          obtain ⟨rfl, rfl⟩ := h
          exact (one_part .not (not_okr hH ha f (a + 1) (dep + 1) _ _ (by omega) h3)).up (hH dep (by omega))
    · exact ha _ _ _ _ hd h
omit hT in
theorem joined_okr {k : Int} (hk : ∀ n, 2 ≤ n → Node k [] Se.none n 0 0) {n : Nat} {l : List Re} (hl : ∀ p ∈ l, OkRe n p) (h1 : 1 ≤ l.length) : OkRe (n + 1) (joinedM k l) := by
  rcases l with _ | ⟨p, _ | ⟨q, l⟩⟩
  · simp at h1
  · exact (hl p (by simp)).up (Nat.le_succ _)
  · unfold joinedM OkRe
    exact ⟨hk _ (by simp), hl⟩
omit hT in
theorem catLoop_okr {n : Nat} {part : Nat → Nat → R} {dep : Nat} (hp : ∀ a r a1, part a dep = .ok (r, a1) → OkRe n r) : ∀ (f : Nat) (l : List Re) (a : Nat) (r : Re) (a1 : Nat), (∀ p ∈ l, OkRe n p) → 1 ≤ l.length → catLoop part T dep f l a = .ok (r, a1) → OkRe (n + 1) r
  | 0, _, _, _, _, _, _, h => by rw [catLoop] at h; cases h
  | f + 1, l, a, r, a1, hl, h1, h => by
    rw [catLoop] at h
    split at h
    · rcases h2 : part a dep with e | ⟨r', a'⟩
      · rw [h2] at h; cases h
      · rw [h2] at h
        refine catLoop_okr hp f (l ++ [r']) a' r a1 (fun p hm => ?_) (by simp) h
        rcases List.mem_append.1 hm with hm | hm
        · exact hl p hm
        · simp at hm; subst hm; exact hp _ _ _ h2
    · simp only [Except.ok.injEq, Prod.mk.injEq] at h
      obtain ⟨rfl, rfl⟩ := h
      exact joined_okr (fun n hn => .cat n hn) hl h1
omit hT in
theorem cat_okr {H : Nat → Nat} {part : Nat → Nat → R} (hp : POk H part) : POk (fun d => H d + 1) (catM part T) := by
  intro a dep r a1 hd h
  unfold catM at h
  rcases h2 : part a dep with e | ⟨r', a'⟩
  · rw [h2] at h; cases h
  · rw [h2] at h
    exact catLoop_okr (fun a r a1 h => hp a dep r a1 hd h) _ _ _ _ _ (fun p hm => by simp at hm; subst hm; exact hp _ _ _ _ hd h2) (by simp) h
omit hT in
theorem rowLoop_okr {n : Nat} {part : Nat → Nat → R} {dep : Nat} {k : Int} {s : List B} (hk : ∀ n, 2 ≤ n → Node k [] Se.none n 0 0) (hp : ∀ a r a1, part a dep = .ok (r, a1) → OkRe n r) : ∀ (f : Nat) (l : List Re) (a : Nat) (r : Re) (a1 : Nat), (∀ p ∈ l, OkRe n p) → 1 ≤ l.length → rowLoop part T dep k s f l a = .ok (r, a1) → OkRe (n + 1) r
  | 0, _, _, _, _, _, _, h => by rw [rowLoop] at h; cases h
  | f + 1, l, a, r, a1, hl, h1, h => by
    rw [rowLoop] at h
    split at h
    · rcases h2 : part (a + 1) dep with e | ⟨r', a'⟩
      · rw [h2] at h; cases h
      · rw [h2] at h
        refine rowLoop_okr hk hp f (l ++ [r']) a' r a1 (fun p hm => ?_) (by simp) h
        rcases List.mem_append.1 hm with hm | hm
        · exact hl p hm
        · simp at hm; subst hm; exact hp _ _ _ h2
    · simp only [Except.ok.injEq, Prod.mk.injEq] at h
      obtain ⟨rfl, rfl⟩ := h
      exact joined_okr hk hl h1
omit hT in
theorem row_okr {H : Nat → Nat} {part : Nat → Nat → R} {k : Int} {s : List B} (hk : ∀ n, 2 ≤ n → Node k [] Se.none n 0 0) (hp : POk H part) : POk (fun d => H d + 1) (rowM k s part T) := by
  intro a dep r a1 hd h
  unfold rowM at h
  rcases h2 : part a dep with e | ⟨r', a'⟩
  · rw [h2] at h; cases h
  · rw [h2] at h
    exact rowLoop_okr hk (fun a r a1 h => hp a dep r a1 hd h) _ _ _ _ _ (fun p hm => by simp at hm; subst hm; exact hp _ _ _ _ hd h2) (by simp) h
theorem alt_okr (N : Se) : ∀ n, POk (fun d => 4 * (33 - d) + 1) (altM N T n)
  | 0 => by
    intro a dep r a1 hd h
    rw [altM] at h; cases h
  | n + 1 => by
    have h1 := atom_okr hT (N := N) (H := fun d => 4 * (33 - d) + 1) (fun d => by omega) (alt_okr N n)
    have h2 : POk (fun d => 4 * (32 - d) + 2) (repM (atomM N (altM N T n) T) T) := fun a dep r a1 hd h => (rep_okr h1 a dep r a1 hd h).up (by show _ ≤ _; simp only; omega)
    intro a dep r a1 hd h
    have h3 : POk (fun d => 4 * (33 - d) - 2) (notM (repM (atomM N (altM N T n) T) T) T 40) := by
      exact not_okr (fun d hd => by omega) (fun a dep r a1 hd h => (h2 a dep r a1 hd h).up (by show _ ≤ _; simp only; omega)) 40
    unfold altM at h
    exact (row_okr (fun n hn => .alt n hn) (row_okr (fun n hn => .and n hn) (cat_okr h3)) a dep r a1 hd h).up (by show _ ≤ _; simp only; omega)
end
end Go.Proofs.YtfljcfdfgojdoaaGreatDoor

namespace Go.Proofs.YtfljcfdfgojdoaaGreatDoor.Sh
open Go.RowKit Go.Lib Go.Proofs.YtfljcfdfgojdoaaGreatDoor

def deepB : Nat → Re → Bool
  | 0, _ => true
  | n + 1, .mk _ _ _ ps _ _ => ps.any (deepB n)
theorem any_no {α : Type} {p : α → Bool} {l : List α} (h : ∀ x, x ∈ l → p x = false) : l.any p = false := List.any_eq_false.2 fun x hx => by rw [h x hx]; simp
set_option maxRecDepth 100000 in
set_option maxHeartbeats 2000000 in
theorem deep_any : ∀ (m : Nat) (r : Re), m ≤ 1000000 → ∀ (F : Nat → Prop) (cs : Array Value) (w : World), (∀ g, F g → g < w.heap.size) → ReG F w r cs →
    Calls Tryz.prog 53 #[.agg cs, .int .i64 m] w fun e w' => e = .returned (.bool (deepB m r)) ∧ Below w.heap.size w w' := by
  intro m
  induction m with
  | zero =>
    intro r hm F cs w hFw h
    obtain ⟨k, x, s, ad, n, cap, mn, mx, rfl⟩ := h.cells
    have HB := hid ((Below.refl w.heap.size w).alloc (Nat.le_refl _) (.cells (reC k x s (.slice ad n cap) mn mx) 33))
    have HE := hid (show deepB 0 r = true from rfl)
    clear h
    go_enter Tryz.func53, Tryz.ntmps53
    go_wp2
    go_ret
    exact ⟨bool_eq HE.out.symm, HB.out⟩
  | succ m ih =>
    intro r hm F cs w hFw h
    obtain ⟨k, x, s, ps, mn, mx⟩ := r
    obtain ⟨ad, cap, rfl, hlen, hps⟩ := h.open
    have IH := hid ih
    have HPS := hid hps
    have HFW := hid hFw
    have HR := hid (show deepB (m + 1) (.mk k x s ps mn mx) = ps.any (deepB m) from rfl)
    clear h ih hps hFw
    unfold maxLen at hlen
    have hm0 : (((m + 1 : Nat) : Int) == 0) = false := by rw [beq_eq_false_iff_ne]; omega
    go_enter Tryz.func53, Tryz.ntmps53
    go_wp2
    have hb0 : Below w.heap.size w (w.alloc (.cells (reC k x s (.slice ad ps.length cap) mn mx) 33)) := ((Below.refl _ w).alloc (Nat.le_refl _) _)
    go_loopw [12] (fun v wr => ∃ i : Nat, i ≤ ps.length ∧ v = .int .i64 i ∧ Hid (∀ p, p ∈ ps.take i → deepB m p = false) ∧ Below (w.heap.size + 1) (w.alloc (.cells (reC k x s (.slice ad ps.length cap) mn mx) 33)) wr) (fun v _ => ps.length - (RowKit.intOf v).toNat)
    case atStart => exact ⟨0, Nat.zero_le _, rfl, by intro p hp; simp at hp, Below.refl _ _⟩
    case round =>
      obtain ⟨i, hi, rfl, HT, hb⟩ := hrel
      have hwr : Below w.heap.size w wr := hb0.trans (hb.mono (by omega))
      have hsz : w.heap.size + 1 ≤ wr.heap.size := by have := hb.size; simp at this; omega
      by_cases hlt : i < ps.length
      · obtain ⟨g, off, rfl, hgF, hparts⟩ := HPS.out (by rintro rfl; simp at hlt)
        obtain ⟨k1, x1, s1, ad1, n1, cap1, mn1, mx1, hr1, hc⟩ := hparts.at (List.getElem?_eq_getElem hlt)
        have hgl := HFW.out g hgF
        have low : ∀ (o : Nat) {v : Value}, w.cell? ⟨g, o, none⟩ = some v → wr.cell? ⟨g, o, none⟩ = some v := fun o v h => (hwr.cell (p := ⟨g, o, none⟩) hgl).trans h
        have a0 : wr.cell? ⟨g, off + i * 9, none⟩ = _ := low _ (hc 0 _ rfl)
        have a1 := low _ (hc 1 _ rfl)
        have a2 := low _ (hc 2 _ rfl)
        have a3 := low _ (hc 3 _ rfl)
        have a4 := low _ (hc 4 _ rfl)
        have a5 := low _ (hc 5 _ rfl)
        have a6 := low _ (hc 6 _ rfl)
        have a7 := low _ (hc 7 _ rfl)
        have a8 := low _ (hc 8 _ rfl)
        have hgi : (i : Int) < (ps.length : Int) := by omega
        have hwa : Below w.heap.size w (wr.alloc (.cells (reC k1 x1 s1 (.slice ad1 n1 cap1) mn1 mx1) 33)) := hwr.alloc (by omega) _
        have hcall := IH.out ps[i] (by omega) F _ (wr.alloc (.cells (reC k1 x1 s1 (.slice ad1 n1 cap1) mn1 mx1) 33)) (fun g hg => by have := HFW.out g hg; simp; omega) (hr1.below HFW.out hwa)
        have HS := hid (take_snoc hlt)
        have HM := hid (List.getElem_mem hlt)
        clear hparts hc low hr1 hwa
        by_cases hd : deepB m ps[i] = true
        · rw [hd] at hcall
          have HD := hid hd
          clear hd
          go_wp2_with (go_at_call 53; refine hcall.mono ?_; clear hcall; rintro e w3 ⟨rfl, hb3⟩)
          go_ret
          exact ⟨bool_eq (by rw [HR.out]; exact (List.any_eq_true.2 ⟨_, HM.out, HD.out⟩).symm), (hwr.alloc (by omega) _).trans (hb3.mono (by simp; omega))⟩
        · rw [Bool.not_eq_true] at hd
          rw [hd] at hcall
          have HD := hid hd
          clear hd
          go_wp2_with (go_at_call 53; refine hcall.mono ?_; clear hcall; rintro e w3 ⟨rfl, hb3⟩)
          go_roundw
          case rel =>
            repeat apply Exists.intro
            refine And.intro ?_ rfl
            exact ⟨i + 1, by omega, by go_num, hid (fun p hp => by
            rw [HS.out] at hp
            rcases List.mem_append.1 hp with hp | hp
            · exact HT.out p hp
            · rw [List.mem_singleton.1 hp]; exact HD.out), (hb.alloc (by omega) _).trans (hb3.mono (by simp; omega))⟩
          case measure => simp [RowKit.intOf]; omega
      · obtain rfl : i = ps.length := by omega
        go_wp2
        go_ret
        refine ⟨bool_eq ?_, hwr⟩
        rw [HR.out]
        exact (any_no fun p hp => HT.out p (by rw [List.take_length]; exact hp)).symm
end Go.Proofs.YtfljcfdfgojdoaaGreatDoor.Sh

namespace Go.Proofs.YtfljcfdfgojdoaaGreatDoor.Sh
open Go.RowKit Go.Lib Go.Proofs.YtfljcfdfgojdoaaGreatDoor

def nameOk (l : List B) : Bool := decide ((nextL 0 l).err = 0) && (decide ((nextL 0 l).tok.kind = 1) && (((nextL 0 l).tok.text == l) && !reservedB l))
set_option maxRecDepth 100000 in
set_option maxHeartbeats 1000000 in
theorem mayName_any (l : List B) (w : World) (hs : l.length ≤ 140737488351232) :
    Calls Tryz.prog 110 #[.string ⟨l.toArray⟩] w fun e w' => e = .returned (.bool (nameOk l)) ∧ Below w.heap.size w w' := by
  have hs' : (⟨l.toArray⟩ : ByteArray).size ≤ 140737488351232 := by simpa [ByteArray.size] using hs
  have HS := hid hs'
  have hn : nameOk l = (decide ((nextL 0 (sfx ⟨l.toArray⟩ 0)).err = 0) && (decide ((nextL 0 (sfx ⟨l.toArray⟩ 0)).tok.kind = 1) && (((nextL 0 (sfx ⟨l.toArray⟩ 0)).tok.text == l) && !reservedB l))) := rfl
  have HN := hid hn
  clear hs hs' hn
  generalize hx : nextL 0 (sfx ⟨l.toArray⟩ 0) = x at *
  have HX := hid hx
  clear hx
  obtain ⟨t, nx, er⟩ := x
  obtain ⟨tk, tt, ts, tn, tp⟩ := t
  simp only at HN
  go_enter Tryz.func110, Tryz.ntmps110
  go_wp2_with (first | (go_at_call 144; refine (next_at ⟨l.toArray⟩ _ 0 _ rfl (Nat.zero_le _) HS.out).mono ?_; rintro e w1 ⟨rfl, hb1⟩; rw [HX.out]; simp only [Nx.v, Tok.cells]) | (go_at_call 147; refine (reserved_any ⟨l.toArray⟩ _).mono ?_; rintro e w2 ⟨rfl, rfl⟩))
  all_goals
    go_ret
    refine ⟨bool_eq ?_, bbox hb1 _⟩
    rw [HN.out]
    simp [*]
def oftB (lo hi : Int) : Bool := if hi = -1 then decide (lo = 0) || decide (lo = 1) else decide (0 ≤ lo) && decide (lo ≤ hi) && decide (hi ≤ 64)
set_option maxRecDepth 100000 in
theorem mayOft_any (a b : Int) (w : World) :
    Calls Tryz.prog 111 #[.int .i64 a, .int .i64 b] w fun e w' => e = .returned (.bool (oftB a b)) ∧ w = w' := by
  by_cases h1 : b = -1
  · subst h1
    by_cases h2 : a = 0
    · subst h2
      go_enter Tryz.func111, Tryz.ntmps111
      go_wp2
      go_ret
      exact ⟨rfl, rfl⟩
    · by_cases h3 : a = 1
      · subst h3
        go_enter Tryz.func111, Tryz.ntmps111
        go_wp2
        go_ret
        exact ⟨rfl, rfl⟩
      · have HO := hid (show oftB a (-1) = false by unfold oftB; simp [h2, h3])
        have e2 : (a == 0) = false := by simpa using h2
        have e3 : (a == 1) = false := by simpa using h3
        go_enter Tryz.func111, Tryz.ntmps111
        go_wp2
        go_ret
        exact ⟨bool_eq HO.out.symm, rfl⟩
  · have hb : (b == -1) = false := by rw [beq_eq_false_iff_ne]; exact h1
    by_cases h2 : 0 ≤ a
    · by_cases h3 : a ≤ b
      · by_cases h4 : b ≤ 64
        · have HO := hid (show oftB a b = true by unfold oftB; simp [h1, h2, h3, h4])
          clear h1
          go_enter Tryz.func111, Tryz.ntmps111
          go_wp2
          go_ret
          exact ⟨bool_eq HO.out.symm, rfl⟩
        · have HO := hid (show oftB a b = false by unfold oftB; simp [h1, h4])
          clear h1
          go_enter Tryz.func111, Tryz.ntmps111
          go_wp2
          go_ret
          exact ⟨bool_eq HO.out.symm, rfl⟩
      · have HO := hid (show oftB a b = false by unfold oftB; simp [h1, h3])
        clear h1
        go_enter Tryz.func111, Tryz.ntmps111
        go_wp2
        go_ret
        exact ⟨bool_eq HO.out.symm, rfl⟩
    · have HO := hid (show oftB a b = false by unfold oftB; simp [h1, h2])
      clear h1
      go_enter Tryz.func111, Tryz.ntmps111
      go_wp2
      go_ret
      exact ⟨bool_eq HO.out.symm, rfl⟩
end Go.Proofs.YtfljcfdfgojdoaaGreatDoor.Sh

namespace Go.Proofs.YtfljcfdfgojdoaaGreatDoor.Sh
open Go.RowKit Go.Lib Go.Proofs.YtfljcfdfgojdoaaGreatDoor

def noneB (s : Se) : Bool := s.a == 0 && s.b == 0 && s.c == 0 && s.d == 0
/-- may this stand in one expression, its parts aside? -/
def nodeB (k : Int) (x : List B) (s : Se) (n : Nat) (mn mx : Int) : Bool :=
  if k = 1 then decide (x.length ≤ 256) && (noneB s && (decide (n = 0) && (decide (mn = 0) && decide (mx = 0))))
  else if k = 2 then decide (x = []) && (decide (n = 0) && (decide (mn = 0) && decide (mx = 0)))
  else if k = 3 then nameOk x && (noneB s && (decide (n = 0) && (decide (mn = 0) && decide (mx = 0))))
  else if k = 4 ∨ k = 5 ∨ k = 6 then decide (2 ≤ n) && (decide (x = []) && (noneB s && (decide (mn = 0) && decide (mx = 0))))
  else if k = 7 then decide (n = 1) && (decide (x = []) && (noneB s && (decide (mn = 0) && decide (mx = 0))))
  else if k = 8 then decide (n = 1) && (oftB mn mx && (decide (x = []) && noneB s))
  else false
def rightB : Nat → Re → Bool
  | 0, _ => false
  | n + 1, .mk k x s ps mn mx => nodeB k x s ps.length mn mx && ps.all (rightB n)
theorem rightB_succ (n : Nat) (k : Int) (x : List B) (s : Se) (ps : List Re) (mn mx : Int) : rightB (n + 1) (.mk k x s ps mn mx) = (nodeB k x s ps.length mn mx && ps.all (rightB n)) := rfl
theorem str_none {x : List B} (h : x ≠ []) : ¬ x = [] ∧ ¬ (⟨x.toArray⟩ : ByteArray) = ⟨#[]⟩ := by
  have : ¬ (⟨x.toArray⟩ : ByteArray) = ⟨#[]⟩ := fun e => h (by
    have := congrArg (fun b : ByteArray => b.data.toList) e
    simpa using this)
  exact ⟨h, this⟩
theorem noneB_eq {s : Se} (h : noneB s = true) : s = Se.none := by
  obtain ⟨a, b, c, d⟩ := s
  unfold noneB at h
  simp only [Bool.and_eq_true, beq_iff_eq] at h
  obtain ⟨⟨⟨h1, h2⟩, h3⟩, h4⟩ := h
  rw [h1, h2, h3, h4]; rfl
/-- right at an expression, in a world -/
def RightAt (n : Nat) (r : Re) : Prop := ∀ (F : Nat → Prop) (cs : Array Value) (w : World), (∀ g, F g → g < w.heap.size) → ReG F w r cs → Calls Tryz.prog 54 #[.agg cs] w fun e w' => e = .returned (.bool (rightB n r)) ∧ Below w.heap.size w w'

end Go.Proofs.YtfljcfdfgojdoaaGreatDoor.Sh
