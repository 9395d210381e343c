/-
  Plain: what the parser tells of tokens that the lexer gave: how deep it is written, how many parts it has, and that its sets' words are words.
-/
import Derived.Test.YtfljcfdfgojdoaaGreatDoorAa42
namespace Go.Proofs.YtfljcfdfgojdoaaGreatDoor.Sh
open Go.RowKit Go.Lib Go.Proofs.YtfljcfdfgojdoaaGreatDoor

-- tokens' sets
theorem SeOk.span (b c : B) : SeOk (spanS b c) := by
  unfold spanS
  exact (bits_has _ _ (by have := b.toNat_lt; have := c.toNat_lt; omega)).1
theorem setL_seok : ∀ (f : Nat) (t : Se) (r : List B) (s : Se) (rest : List B), SeOk t → setL f t r = .ok (s, rest) → SeOk s
  | 0, _, _, _, _, _, h => by rw [setL] at h; cases h
  | f + 1, t, [], _, _, _, h => by rw [setL] at h; cases h
  | f + 1, t, c :: r, s, rest, ht, h => by
    rw [setL] at h
    split at h
    · cases h; exact ht
    · rcases h1 : oneL (c :: r) with e | ⟨b, n⟩
      · rw [h1] at h; cases h
      · rw [h1] at h
        simp only at h
        rcases h2 : (c :: r).drop n with _ | ⟨d, r1⟩
        · rw [h2] at h
          exact setL_seok f _ _ _ _ (ht.any (SeOk.span b b)) h
        · rw [h2] at h
          simp only at h
          split at h
          · rcases h3 : oneL r1 with e | ⟨b2, m⟩
            · rw [h3] at h; cases h
            · rw [h3] at h
              simp only at h
              split at h
              · cases h
              · exact setL_seok f _ _ _ _ (ht.any (SeOk.span b b2)) h
          · exact setL_seok f _ _ _ _ (ht.any (SeOk.span b b)) h
theorem setFin_seok {n m : Nat} {o : Bool} {f : Nat} {r : List B} {t : Tok} (h : setFin n o (setL f Se.none r) = .ok (t, m)) : SeOk t.set := by
  rcases h1 : setL f Se.none r with e | ⟨s, rest⟩
  · rw [h1] at h; cases h
  · rw [h1] at h
    have hs := setL_seok _ _ _ _ _ SeOk.none h1
    cases h
    cases o
    · exact hs
    · exact hs.nots
theorem tokenL_seok {r : List B} {t : Tok} {n : Nat} (h : tokenL r = .ok (t, n)) : SeOk t.set := by
  rcases r with _ | ⟨c, r⟩
  · cases h
  · unfold tokenL at h
    simp only at h
    split at h
    · unfold nameL at h; split at h <;> cases h; exact SeOk.none
    · split at h
      · unfold numL at h; split at h <;> cases h; exact SeOk.none
      · split at h
        · obtain ⟨m, hm, rfl⟩ := bump_ok h
          unfold quotedL at hm
          split at hm
          · cases hm
          · split at hm
            · cases hm
            · cases hm; exact SeOk.none
        · split at h
          · obtain ⟨m, hm, rfl⟩ := bump_ok h
            unfold bytesL at hm
            split at hm
            · exact setFin_seok hm
            · split at hm
              · exact setFin_seok hm
              · exact setFin_seok hm
          · unfold signL at h
            split at h
            · cases h; exact SeOk.none
            · split at h
              · cases h
              · split at h <;> cases h; exact SeOk.none
theorem lexes_seok {r : List B} {l : List Tok} (h : Lexes r l) : ∀ t ∈ l, SeOk t.set := by
  induction h with
  | stop _ => intro t ht; cases ht
  | step h ht hl ih =>
    intro t' ht'
    rcases List.mem_cons.1 ht' with rfl | hm
    · exact tokenL_seok ht
    · exact ih _ hm
/-- what the parser relies on in tokens -/
structure ToksOk (T : List Tok) : Prop where
  ok : ∀ i, TokOk (tokAt T i)
  se : ∀ i, SeOk (tokAt T i).set
theorem toks_ok {s : ByteArray} {l : List Tok} (h : allT s = .ok l) : ToksOk (toksOf s l) := by
  have hx := allT_lexes h
  have hl := lexes_okt hx
  have hs := lexes_seok hx
  have hb := bases_of (s := s) (l := l) rfl
  have zk : ∀ i, ¬ i < (l.map Tok.base).length → (tokAt (toksOf s l) i) = endTok s ∨ tokAt (toksOf s l) i = Tok.zero := fun i hi => by
    by_cases he : i = (l.map Tok.base).length
    · left
      subst he
      exact tokAt_of (by unfold toksOf; simp)
    · right
      unfold tokAt
      have : (toksOf s l)[i]? = none := List.getElem?_eq_none (by rw [hb.len]; omega)
      simp only [List.getD, this]
      rfl
  refine ⟨fun i => ?_, fun i => ?_⟩
  · by_cases hi : i < (l.map Tok.base).length
    · have h2 := hb.at' i _ (List.getElem?_eq_getElem hi)
      refine (hl _ (List.getElem_mem hi)).base ?_
      rw [h2, ← h2]; rfl
    · have hk : (tokAt (toksOf s l) i).kind = 0 := by
        rcases zk i hi with e | e <;> rw [e] <;> rfl
      exact ⟨fun h2 => absurd (hk.symm.trans h2) (by decide), fun h2 => absurd (hk.symm.trans h2) (by decide)⟩
  · by_cases hi : i < (l.map Tok.base).length
    · have h2 := hb.at' i _ (List.getElem?_eq_getElem hi)
      have h3 := hs _ (List.getElem_mem hi)
      have h4 : (tokAt (toksOf s l) i).set = (tokAt (toksOf s l) i).base.set := rfl
      rw [h4, h2]
      exact h3
    · rcases zk i hi with e | e <;> rw [e] <;> exact SeOk.none
theorem kind_lt {T : List Tok} {a : Nat} (h : (tokAt T a).kind ≠ 0) : a < T.length := by
  rcases Nat.lt_or_ge a T.length with hl | hl
  · exact hl
  · exfalso
    apply h
    unfold tokAt
    have : T[a]? = none := List.getElem?_eq_none hl
    simp only [List.getD, this]
    rfl
theorem isB_lt {T : List Tok} {a : Nat} {s : List B} (h : isB (tokAt T a) s = true) : a < T.length := kind_lt (isB_kind h)
-- depths
theorem askD_mono {r : Re} {q q' : Nat} (h : q ≤ q') : askD r q ≤ askD r q' := by
  unfold askD
  split
  · split <;> omega
  · omega
theorem askD_le (r : Re) (q : Nat) : askD r q ≤ reD r + 1 := by
  unfold askD; split <;> omega
theorem askD_zero (r : Re) : askD r 0 = reD r := by
  unfold askD; rw [if_neg (by omega)]; rfl
theorem partsD_le2 {n : Nat} {d : Nat} : ∀ {l : List Re}, d ≤ 32 → (∀ p ∈ l, d + askD p n ≤ 32) → d + partsD n l ≤ 32
  | [], hd, _ => by rw [partsD]; omega
  | p :: l, hd, h => by
    have h1 := h p List.mem_cons_self
    have h2 := partsD_le2 hd fun q hq => h q (List.mem_cons_of_mem _ hq)
    rw [partsD]
    unfold askD at h1
    omega
/-- a function of the parser at a level: how far it goes, how many parts what it tells has, how deep that is written -/
def PB (T : List Tok) (q : Nat) (part : Nat → Nat → R) : Prop :=
  ∀ a dep r a1, a ≤ T.length → dep ≤ 32 → part a dep = .ok (r, a1) → a1 ≤ T.length ∧ nodes r + 1 + 2 * a ≤ 2 * a1 ∧ dep + askD r q ≤ 32 ∧ SeRe r
theorem notNone_ok : SeOk notNone := SeOk.none.nots
theorem node_one (k : Int) (x : List B) (s : Se) : nodes (.mk k x s [] 0 0) = 1 := by rw [nodes, nodesL]
theorem leaf_askD {k : Int} (hk : k = 1 ∨ k = 2 ∨ k = 3) (x : List B) (s : Se) {q : Nat} (hq : q ≤ 5) : askD (.mk k x s [] 0 0) q = 0 := by
  have h1 : lev (.mk k x s [] 0 0) = 5 := by rcases hk with rfl | rfl | rfl <;> rfl
  have h2 : reD (.mk k x s [] 0 0) = 0 := by rcases hk with rfl | rfl | rfl <;> rfl
  unfold askD
  rw [h1, h2, if_neg (by omega)]
theorem sere_leaf (k : Int) (x : List B) {s : Se} (hs : SeOk s) : SeRe (.mk k x s [] 0 0) := .mk _ _ _ _ _ _ hs fun p hp => by cases hp
section
variable {T : List Tok} (hT : ToksOk T)
include hT
theorem leaf_pb {a : Nat} {r : Re} {a1 : Nat} (h : leafM notNone T a = .ok (r, a1)) : a < T.length ∧ a1 = a + 1 ∧ LeafR r ∧ nodes r = 1 ∧ (∀ q, q ≤ 5 → askD r q = 0) ∧ SeRe r := by
  have ht := hT.ok a
  have hs := hT.se a
  unfold leafM at h
  simp only at h
  split at h
  · rename_i h1
    have hk : (tokAt T a).kind = 2 := by simpa using h1
    simp only [Except.ok.injEq, Prod.mk.injEq] at h
    obtain ⟨rfl, rfl⟩ := h
    exact ⟨kind_lt (by rw [hk]; decide), rfl, .mk _ _ _ (.text _ (ht.text hk)) (.inl rfl), node_one _ _ _, fun q hq => leaf_askD (.inl rfl) _ _ hq, sere_leaf _ _ SeOk.none⟩
  · split at h
    · rename_i h1
      have hk : (tokAt T a).kind = 3 := by simpa using h1
      simp only [Except.ok.injEq, Prod.mk.injEq] at h
      obtain ⟨rfl, rfl⟩ := h
      exact ⟨kind_lt (by rw [hk]; decide), rfl, .mk _ _ _ (.set _) (.inr (.inl rfl)), node_one _ _ _, fun q hq => leaf_askD (.inr (.inl rfl)) _ _ hq, sere_leaf _ _ hs⟩
    · split at h
      · rename_i h1
        have hk : (tokAt T a).kind = 1 := by simpa using h1
        unfold nameM at h
        simp only at h
        split at h
        · cases h
        · rename_i s a' hx
          split at hx
          · cases hx
          · rename_i hr
            split at hx
            · cases hx
            · simp only [Except.ok.injEq, Prod.mk.injEq] at hx h
              obtain ⟨rfl, rfl⟩ := hx
              obtain ⟨rfl, rfl⟩ := h
              obtain ⟨n1, n2, n3, n4⟩ := ht.name hk
              refine ⟨kind_lt (by rw [hk]; decide), rfl, .mk _ _ _ (.name _ ?_ n1) (.inr (.inr rfl)), node_one _ _ _, fun q hq => leaf_askD (.inr (.inr rfl)) _ _ hq, sere_leaf _ _ SeOk.none⟩
              have hs : sfx ⟨(tokAt T a).text.toArray⟩ 0 = (tokAt T a).text := by simp [sfx]
              have hl : (⟨(tokAt T a).text.toArray⟩ : ByteArray).toList = (tokAt T a).text := by rw [ByteArray.toList_eq]
              unfold NameOk
              rw [hs, hl]
              exact ⟨n2, n3, n4, by simpa using hr⟩
      · split at h
        · rename_i h1
          simp only [Except.ok.injEq, Prod.mk.injEq] at h
          obtain ⟨rfl, rfl⟩ := h
          exact ⟨isB_lt h1, rfl, .mk _ _ _ (.set _) (.inr (.inl rfl)), node_one _ _ _, fun q hq => leaf_askD (.inr (.inl rfl)) _ _ hq, sere_leaf _ _ notNone_ok⟩
        · cases h
theorem atom_pb {alt : Nat → Nat → R} (ha : PB T 0 alt) : PB T 5 (atomM notNone alt T) := by
  intro a dep r a1 hl hd h
  unfold atomM at h
  split at h
  · rename_i h0
    have := isB_lt h0
    split at h
    · cases h
    · rename_i h2
      rcases h3 : alt (a + 1) (dep + 1) with e | ⟨r', a'⟩
      · rw [h3] at h; cases h
      · rw [h3] at h
        simp only at h
        split at h
        · rename_i h4
          have := isB_lt h4
          simp only [Except.ok.injEq, Prod.mk.injEq] at h
          obtain ⟨rfl, rfl⟩ := h
          obtain ⟨b1, b2, b3, b4⟩ := ha _ _ _ _ (by omega) (by omega) h3
          rw [askD_zero] at b3
          have := askD_le r' 5
          exact ⟨by omega, by omega, by omega, b4⟩
        · cases h
  · obtain ⟨c1, rfl, _, c2, c3, c4⟩ := leaf_pb hT h
    have := c3 5 (by omega)
    exact ⟨by omega, by omega, by omega, c4⟩
omit hT in
theorem number_pb {a a1 : Nat} {lo v : Int} (h : numberM T a lo = .ok (v, a1)) : a < T.length ∧ a1 = a + 1 := by
  unfold numberM at h
  simp only at h
  split at h
  · cases h
  · rename_i h1
    simp only [Except.ok.injEq, Prod.mk.injEq] at h
    obtain ⟨rfl, rfl⟩ := h
    refine ⟨kind_lt fun h0 => h1 (.inl (by rw [h0]; decide)), rfl⟩
omit hT in
theorem sere_one {k : Int} {p : Re} {mn mx : Int} (h : SeRe p) : SeRe (.mk k [] Se.none [p] mn mx) := .mk _ _ _ _ _ _ SeOk.none fun q hq => by simp at hq; subst hq; exact h
omit hT in
theorem node_two (k : Int) (x : List B) (s : Se) (p : Re) (mn mx : Int) : nodes (.mk k x s [p] mn mx) = 1 + nodes p := by rw [nodes, nodesL, nodesL]; omega
omit hT in
theorem rep_ask (p : Re) (mn mx : Int) : askD (.mk 8 [] Se.none [p] mn mx) 4 = askD p 5 := by
  have h1 : lev (.mk 8 [] Se.none [p] mn mx) = 4 := rfl
  have h2 : reD (.mk 8 [] Se.none [p] mn mx) = askD p 5 := by
    rw [reD, partsD, partsD]
    simp [needK, askD]
  unfold askD at h2 ⊢
  rw [h1, h2, if_neg (Nat.lt_irrefl 4)]; rfl
omit hT in
theorem not_ask (p : Re) : askD (.mk 7 [] Se.none [p] 0 0) 3 = askD p 3 + 1 := by
  have h1 : lev (.mk 7 [] Se.none [p] 0 0) = 3 := rfl
  have h2 : reD (.mk 7 [] Se.none [p] 0 0) = askD p 3 + 1 := by
    rw [reD, partsD, partsD]
    simp [needK, askD]
  unfold askD at h2 ⊢
  rw [h1, h2, if_neg (Nat.lt_irrefl 3)]
omit hT in
theorem often_pb {a : Nat} (h : (oftenM T a).ok = true) : a < T.length ∧ (oftenM T a).next = a + 1 := by
  unfold oftenM at h ⊢
  simp only at h ⊢
  split
  · rename_i h1; exact ⟨isB_lt h1, rfl⟩
  · rename_i h1
    split
    · rename_i h2; exact ⟨isB_lt h2, rfl⟩
    · rename_i h2
      split
      · rename_i h3; exact ⟨isB_lt h3, rfl⟩
      · rename_i h3
        rw [if_neg h1, if_neg h2, if_neg h3] at h
        cases h
omit hT in
theorem rep_pb {atom : Nat → Nat → R} (ha : PB T 5 atom) : PB T 4 (repM atom T) := by
  intro a dep r a1 hl hd h
  unfold repM at h
  rcases h0 : atom a dep with e | ⟨part, a2⟩
  · rw [h0] at h; cases h
  · rw [h0] at h
    obtain ⟨b1, b2, b3, b4⟩ := ha a dep _ _ hl hd h0
    simp only at h
    split at h
    · rename_i h1
      obtain ⟨c1, c2⟩ := often_pb h1
      simp only [Except.ok.injEq, Prod.mk.injEq] at h
      obtain ⟨rfl, rfl⟩ := h
      rw [c2, node_two, rep_ask]
      exact ⟨by omega, by omega, b3, sere_one b4⟩
    · split at h
      · rename_i h2
        have := isB_lt h2
        rcases n1 : numberM T (a2 + 1) 0 with e | ⟨lo, a3⟩
        · rw [n1] at h; cases h
        · rw [n1] at h
          obtain ⟨c1, rfl⟩ := number_pb n1
          simp only at h
          split at h
          · rename_i h3
            rcases n2 : numberM T (a2 + 1 + 1 + 1) lo with e | ⟨hi, a4⟩
            · rw [n2] at h; cases h
            · rw [n2] at h
              obtain ⟨d1, rfl⟩ := number_pb n2
              simp only at h
              split at h
              · rename_i h4
                have := isB_lt h4
                simp only [Except.ok.injEq, Prod.mk.injEq] at h
                obtain ⟨rfl, rfl⟩ := h
                rw [node_two, rep_ask]
                exact ⟨by omega, by omega, b3, sere_one b4⟩
              · cases h
          · split at h
            · rename_i h4
              have := isB_lt h4
              simp only [Except.ok.injEq, Prod.mk.injEq] at h
              obtain ⟨rfl, rfl⟩ := h
              rw [node_two, rep_ask]
              exact ⟨by omega, by omega, b3, sere_one b4⟩
            · cases h
      · simp only [Except.ok.injEq, Prod.mk.injEq] at h
        obtain ⟨rfl, rfl⟩ := h
        have := askD_mono (r := part) (show 4 ≤ 5 by omega)
        exact ⟨b1, b2, by omega, b4⟩
omit hT in
theorem not_pb {rep : Nat → Nat → R} (ha : PB T 4 rep) : ∀ f, PB T 3 (notM rep T f)
  | 0 => by
    intro a dep r a1 hl hd h
    rw [notM] at h; cases h
  | f + 1 => by
    intro a dep r a1 hl hd h
    rw [notM] at h
    split at h
    · rename_i h0
      have := isB_lt h0
      split at h
      · cases h
      · rename_i h2
        rcases h3 : notM rep T f (a + 1) (dep + 1) with e | ⟨r', a'⟩
        · rw [h3] at h; cases h
        · rw [h3] at h
          simp only [Except.ok.injEq, Prod.mk.injEq] at h
          obtain ⟨rfl, rfl⟩ := h
          obtain ⟨b1, b2, b3, b4⟩ := not_pb ha f (a + 1) (dep + 1) _ _ (by omega) (by omega) h3
          rw [node_two, not_ask]
          exact ⟨b1, by omega, by omega, sere_one b4⟩
    · obtain ⟨b1, b2, b3, b4⟩ := ha _ _ _ _ hl hd h
      have := askD_mono (r := r) (show 3 ≤ 4 by omega)
      exact ⟨b1, b2, by omega, b4⟩
omit hT in
theorem joined_pb {k : Int} (hk : k = 4 ∨ k = 5 ∨ k = 6) {dep a a1 : Nat} {l : List Re} (hd : dep ≤ 32) (hl : ∀ p ∈ l, dep + askD p (needK k) ≤ 32 ∧ SeRe p) (h1 : 1 ≤ l.length) (hn : nodesL l + l.length + 2 * a ≤ 2 * a1) :
    nodes (joinedM k l) + 1 + 2 * a ≤ 2 * a1 ∧ dep + askD (joinedM k l) (levK k) ≤ 32 ∧ SeRe (joinedM k l) := by
  rcases l with _ | ⟨p, _ | ⟨q, l⟩⟩
  · simp at h1
  · show nodes p + 1 + 2 * a ≤ 2 * a1 ∧ dep + askD p (levK k) ≤ 32 ∧ SeRe p
    rw [nodesL, nodesL] at hn
    simp only [List.length_cons, List.length_nil] at hn
    obtain ⟨h2, h3⟩ := hl p (by simp)
    have h4 : levK k ≤ needK k := by rcases hk with rfl | rfl | rfl <;> decide
    have := askD_mono (r := p) h4
    exact ⟨by omega, by omega, h3⟩
  · show nodes (.mk k [] Se.none (p :: q :: l) 0 0) + 1 + 2 * a ≤ 2 * a1 ∧ dep + askD (.mk k [] Se.none (p :: q :: l) 0 0) (levK k) ≤ 32 ∧ SeRe (.mk k [] Se.none (p :: q :: l) 0 0)
    generalize hm : p :: q :: l = m at *
    have hlen : 2 ≤ m.length := by rw [← hm]; simp
    refine ⟨?_, ?_, .mk _ _ _ _ _ _ SeOk.none fun p hp => (hl p hp).2⟩
    · rw [nodes]; omega
    · have h2 := partsD_le2 hd fun p hp => (hl p hp).1
      have h3 : lev (.mk k [] Se.none m 0 0) = levK k := rfl
      have h4 : (if k = 7 then 1 else 0) = 0 := if_neg (by rcases hk with rfl | rfl | rfl <;> decide)
      unfold askD
      rw [h3, if_neg (by omega), reD, h4]
      exact h2
omit hT in
theorem nodesL_app (p : Re) : ∀ l : List Re, nodesL (l ++ [p]) = nodesL l + nodes p
  | [] => by rw [List.nil_append, nodesL, nodesL, nodesL]; omega
  | q :: l => by rw [List.cons_append, nodesL, nodesL, nodesL_app p l]; omega
omit hT in
theorem catLoop_pb {part : Nat → Nat → R} {dep a0 : Nat} (hd : dep ≤ 32) (hp : PB T 3 part) : ∀ (f : Nat) (l : List Re) (a : Nat) (r : Re) (a1 : Nat), a ≤ T.length → (∀ p ∈ l, dep + askD p 3 ≤ 32 ∧ SeRe p) → 1 ≤ l.length → nodesL l + l.length + 2 * a0 ≤ 2 * a → catLoop part T dep f l a = .ok (r, a1) →
    a1 ≤ T.length ∧ nodes r + 1 + 2 * a0 ≤ 2 * a1 ∧ dep + askD r 2 ≤ 32 ∧ SeRe r
  | 0, _, _, _, _, _, _, _, _, h => by rw [catLoop] at h; cases h
  | f + 1, l, a, r, a1, ha, hl, h1, hn, h => by
    rw [catLoop] at h
    split at h
    · rcases h2 : part a dep with e | ⟨r', a'⟩
      · rw [h2] at h; cases h
      · rw [h2] at h
        obtain ⟨b1, b2, b3, b4⟩ := hp a dep _ _ ha hd h2
        refine catLoop_pb hd hp f (l ++ [r']) a' r a1 b1 (fun p hm => ?_) (by simp) (by rw [nodesL_app]; simp only [List.length_append, List.length_cons, List.length_nil]; omega) h
        rcases List.mem_append.1 hm with hm | hm
        · exact hl p hm
        · simp at hm; subst hm; exact ⟨b3, b4⟩
    · simp only [Except.ok.injEq, Prod.mk.injEq] at h
      obtain ⟨rfl, rfl⟩ := h
      exact ⟨ha, joined_pb (k := 4) (.inl rfl) hd hl h1 hn⟩
omit hT in
theorem cat_pb {part : Nat → Nat → R} (hp : PB T 3 part) : PB T 2 (catM part T) := by
  intro a dep r a1 hl hd h
  unfold catM at h
  rcases h2 : part a dep with e | ⟨r', a'⟩
  · rw [h2] at h; cases h
  · rw [h2] at h
    obtain ⟨b1, b2, b3, b4⟩ := hp a dep _ _ hl hd h2
    exact catLoop_pb hd hp _ _ _ _ _ b1 (fun p hm => by simp at hm; subst hm; exact ⟨b3, b4⟩) (by simp) (by rw [nodesL, nodesL]; simp only [List.length_cons, List.length_nil]; omega) h
omit hT in
theorem rowLoop_pb {part : Nat → Nat → R} {dep a0 : Nat} {k : Int} {s : List B} (hk : k = 4 ∨ k = 5 ∨ k = 6) (hd : dep ≤ 32) (hp : PB T (needK k) part) : ∀ (f : Nat) (l : List Re) (a : Nat) (r : Re) (a1 : Nat), a ≤ T.length → (∀ p ∈ l, dep + askD p (needK k) ≤ 32 ∧ SeRe p) → 1 ≤ l.length → nodesL l + l.length + 2 * a0 ≤ 2 * a → rowLoop part T dep k s f l a = .ok (r, a1) →
    a1 ≤ T.length ∧ nodes r + 1 + 2 * a0 ≤ 2 * a1 ∧ dep + askD r (levK k) ≤ 32 ∧ SeRe r
  | 0, _, _, _, _, _, _, _, _, h => by rw [rowLoop] at h; cases h
  | f + 1, l, a, r, a1, ha, hl, h1, hn, h => by
    rw [rowLoop] at h
    split at h
    · rename_i h0
      have := isB_lt h0
      rcases h2 : part (a + 1) dep with e | ⟨r', a'⟩
      · rw [h2] at h; cases h
      · rw [h2] at h
        obtain ⟨b1, b2, b3, b4⟩ := hp (a + 1) dep _ _ (by omega) hd h2
        refine rowLoop_pb hk hd hp f (l ++ [r']) a' r a1 b1 (fun p hm => ?_) (by simp) (by rw [nodesL_app]; simp only [List.length_append, List.length_cons, List.length_nil]; omega) h
        rcases List.mem_append.1 hm with hm | hm
        · exact hl p hm
        · simp at hm; subst hm; exact ⟨b3, b4⟩
    · simp only [Except.ok.injEq, Prod.mk.injEq] at h
      obtain ⟨rfl, rfl⟩ := h
      exact ⟨ha, joined_pb hk hd hl h1 hn⟩
omit hT in
theorem row_pb {part : Nat → Nat → R} {k : Int} {s : List B} (hk : k = 4 ∨ k = 5 ∨ k = 6) (hp : PB T (needK k) part) : PB T (levK k) (rowM k s part T) := by
  intro a dep r a1 hl hd h
  unfold rowM at h
  rcases h2 : part a dep with e | ⟨r', a'⟩
  · rw [h2] at h; cases h
  · rw [h2] at h
    obtain ⟨b1, b2, b3, b4⟩ := hp a dep _ _ hl hd h2
    exact rowLoop_pb hk hd hp _ _ _ _ _ b1 (fun p hm => by simp at hm; subst hm; exact ⟨b3, b4⟩) (by simp) (by rw [nodesL, nodesL]; simp only [List.length_cons, List.length_nil]; omega) h
theorem alt_pb : ∀ n, PB T 0 (altM notNone T n)
  | 0 => by
    intro a dep r a1 hl hd h
    rw [altM] at h; cases h
  | n + 1 => by
    have h1 := not_pb (rep_pb (atom_pb hT (alt_pb n))) 40
    have h2 : PB T 2 (catM _ T) := cat_pb h1
    have h3 : PB T 1 (rowM 6 [38] _ T) := row_pb (k := 6) (.inr (.inr rfl)) h2
    have h4 : PB T 0 (rowM 5 [124] _ T) := row_pb (k := 5) (.inr (.inl rfl)) h3
    intro a dep r a1 hl hd h
    rw [altM] at h
    exact h4 a dep r a1 hl hd h
end
end Go.Proofs.YtfljcfdfgojdoaaGreatDoor.Sh
