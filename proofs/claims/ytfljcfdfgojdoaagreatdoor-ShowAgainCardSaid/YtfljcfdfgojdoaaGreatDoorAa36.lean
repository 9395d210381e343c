/-
  What the parser makes of a text in brackets, of two of them, of one behind a sign that says not; no program in sight.
  parse.Check tells no fault of an expression that may be; the example of the chapter, parsed by the plain function.
-/
import Derived.Test.YtfljcfdfgojdoaaGreatDoorAa31
import Derived.Test.YtfljcfdfgojdoaaGreatDoorAa26
namespace Go.Proofs.YtfljcfdfgojdoaaGreatDoor
open Go.Lib

/-- the tokens of T, places aside, are these, and then comes the end -/
structure Bases (T : List Tok) (ms : List Tok) : Prop where
  at' : ∀ i t, ms[i]? = some t → (tokAt T i).base = t
  fin : (tokAt T ms.length).kind = 0
  len : T.length = ms.length + 1
theorem bases_of {s : ByteArray} {l ms : List Tok} (h : l.map Tok.base = ms) : Bases (toksOf s l) ms := by
  subst h
  refine ⟨fun i t ht => ?_, ?_, by simp [toksOf]⟩
  · rw [List.getElem?_map] at ht
    rcases hl : l[i]? with _ | t'
    · rw [hl] at ht; cases ht
    · rw [hl] at ht
      simp at ht
      have hi : i < l.length := (List.getElem?_eq_some_iff.1 hl).1
      have : (toksOf s l)[i]? = some t' := by unfold toksOf; rw [List.getElem?_append_left hi]; exact hl
      rw [tokAt_of this]; exact ht
  · have : (toksOf s l)[(l.map Tok.base).length]? = some (endTok s) := by unfold toksOf; rw [List.length_map, List.getElem?_append_right (Nat.le_refl _)]; simp
    rw [tokAt_of this]; rfl
theorem lexes_nz {r : List B} {l : List Tok} (h : Lexes r l) : ∀ t ∈ l, t.kind ≠ 0 := by
  induction h with
  | stop _ => intro t ht; cases ht
  | step h ht hl ih =>
    intro t' ht'
    rcases List.mem_cons.1 ht' with rfl | hm
    · exact (tokenL_ok ht).2.2
    · exact ih _ hm
/-- a text that is an expression: its tokens, and what the parser makes of them -/
structure Said (s : ByteArray) (r : Re) (ms : List Tok) : Prop where
  lex : Lexes s.data.toList ms
  al : ∃ T, Bases T ms ∧ altM notNone T 33 0 0 = .ok (r, ms.length)
theorem Bases.nz {T ms : List Tok} (h : Bases T ms) (hm : ∀ t ∈ ms, t.kind ≠ 0) : ∀ i, i < ms.length → (tokAt T i).kind ≠ 0 := by
  intro i hi
  have := h.at' i _ (List.getElem?_eq_getElem hi)
  have hk := (base_parts (t := ms[i]) (t' := tokAt T i) (by rw [this]; have h2 := h.at' i _ (List.getElem?_eq_getElem hi); rw [← h2]; rfl)).1
  rw [hk]
  exact hm _ (List.getElem_mem hi)
theorem said_of {s : ByteArray} {r : Re} (h : parseRe s = .ok r) : ∃ ms, Said s r ms := by
  unfold parseRe at h
  rcases h1 : allT s with ⟨p, x⟩ | l
  · rw [h1] at h; cases h
  · rw [h1] at h
    simp only at h
    have hl := allT_lexes h1
    have hb := bases_of (s := s) (l := l) rfl
    refine ⟨l.map Tok.base, hl, toksOf s l, hb, ?_⟩
    rcases h2 : altM notNone (toksOf s l) 33 0 0 with ⟨p, x⟩ | ⟨r', a⟩
    · rw [h2] at h; cases h
    · rw [h2] at h
      unfold closeM at h
      simp only at h
      split at h
      · cases h
      · rename_i hk
        cases h
        have hk0 : (tokAt (toksOf s l) a).kind = 0 := by simpa using hk
        have hnz := hb.nz (lexes_nz hl)
        have hal : Al (toksOf s l) (toksOf s l) (l.map Tok.base).length 0 := ⟨fun i _ => by rw [Nat.zero_add], hb.fin, hnz, by rw [Nat.zero_add]; exact .fin hb.fin, Nat.le_refl _⟩
        have := (alt_sim hal notNone 33 33 0 0 0 r a (Nat.zero_le _) h2).1
        rcases Nat.lt_or_eq_of_le this with hlt | rfl
        · exact absurd hk0 (hnz a hlt)
        · rfl
/-- too deep -/
def Deep8 (X : R) : Prop := ∃ p, X = .error (p, 8)
theorem sb_base (c : B) {t : Tok} (h : t.base = sb c) (s : B) : isB t [s] = (c == s) := by
  have : t.base = (sb c).base := h
  rw [isB_same this]
  simp [isB, sb]
section
variable {T ms : List Tok} {s : ByteArray} {r : Re} {bs : List Tok}
/-- the part of a row: nots, and what may be repeated -/
abbrev partM (T : List Tok) (n : Nat) : Nat → Nat → R := notM (repM (atomM notNone (altM notNone T n) T) T) T 40
theorem Bases.sign {T ms pre post : List Tok} {c : B} (h : Bases T ms) (hm : ms = pre ++ sb c :: post) : (tokAt T pre.length).base = sb c := by
  subst hm
  exact h.at' _ _ (by simp)
theorem atom_in (hs : Said s r bs) (h : Bases T ms) {pre post : List Tok} (hm : ms = pre ++ (sb 40 :: (bs ++ sb 41 :: post))) {n dep : Nat} (hd : dep ≤ 32) (hn : 33 ≤ n + (dep + 1)) :
    atomM notNone (altM notNone T n) T pre.length dep = .ok (r, pre.length + bs.length + 2) ∨ Deep8 (atomM notNone (altM notNone T n) T pre.length dep) := by
  have h0 := h.sign hm
  have h1 : (tokAt T (pre.length + 1 + bs.length)).base = sb 41 := by
    have := h.sign (pre := pre ++ sb 40 :: bs) (c := 41) (post := post) (by rw [hm]; simp)
    rw [← this]
    congr 2
    simp; omega
  obtain ⟨T0, hb, ha⟩ := hs.al
  have hal : Al T0 T bs.length (pre.length + 1) := by
    refine ⟨fun i hi => ?_, hb.fin, hb.nz (lexes_nz hs.lex), ?_, ?_⟩
    · rw [hb.at' i _ (List.getElem?_eq_getElem hi)]
      refine h.at' _ _ ?_
      subst hm
      rw [List.getElem?_append_right (by omega), show pre.length + 1 + i - pre.length = i + 1 by omega, List.getElem?_cons_succ, List.getElem?_append_left hi]
      exact List.getElem?_eq_getElem hi
    · refine ⟨fun d hd => ?_, ?_⟩
      · rw [sb_base 41 h1]; exact beq_eq_false_iff_ne.2 (Ne.symm hd)
      · rw [begins_same (t := sb 41) h1]; rfl
    · rw [hb.len, h.len, hm]
      simp
      omega
  unfold atomM
  rw [sb_base 40 h0, if_pos (by decide)]
  by_cases hd' : dep = 32
  · rw [if_pos hd']; exact .inr ⟨_, rfl⟩
  · rw [if_neg hd']
    obtain ⟨_, l2⟩ := alt_sim hal notNone 33 n 0 0 (dep + 1) r bs.length (Nat.zero_le _) ha
    rw [Nat.add_zero] at l2
    rcases l2 (by omega) hn with l2 | ⟨p, l2⟩
    · rw [l2]
      simp only
      rw [sb_base 41 h1, if_pos (by decide)]
      left
      congr 2
      omega
    · rw [l2]; exact .inr ⟨p, rfl⟩
/-- behind the part no sign tells how often it may stand -/
structure NoRep (t : Tok) : Prop where
  a : isB t [42] = false
  b : isB t [43] = false
  c : isB t [63] = false
  d : isB t [123] = false
theorem NoRep.sb {t : Tok} {c : B} (h : t.base = sb c) (h1 : c ≠ 42) (h2 : c ≠ 43) (h3 : c ≠ 63) (h4 : c ≠ 123) : NoRep t := by
  constructor <;> rw [sb_base c h] <;> exact beq_eq_false_iff_ne.2 (by assumption)
theorem NoRep.fin {t : Tok} (h : t.kind = 0) : NoRep t :=
  ⟨(Ends.fin h).s _ (by decide), (Ends.fin h).s _ (by decide), (Ends.fin h).s _ (by decide), (Ends.fin h).s _ (by decide)⟩
theorem repM_one {atom : Nat → Nat → R} {T : List Tok} {a dep a1 : Nat} {r : Re} (h : atom a dep = .ok (r, a1)) (he : NoRep (tokAt T a1)) : repM atom T a dep = .ok (r, a1) := by
  unfold repM
  simp only [h, oftenM, he.a, he.b, he.c, he.d]
  simp
theorem part_in (hs : Said s r bs) (h : Bases T ms) {pre post : List Tok} (hm : ms = pre ++ (sb 40 :: (bs ++ sb 41 :: post))) {n dep : Nat} (hd : dep ≤ 32) (hn : 33 ≤ n + (dep + 1)) (he : NoRep (tokAt T (pre.length + bs.length + 2))) (f : Nat) :
    notM (repM (atomM notNone (altM notNone T n) T) T) T (f + 1) pre.length dep = .ok (r, pre.length + bs.length + 2) ∨ Deep8 (notM (repM (atomM notNone (altM notNone T n) T) T) T (f + 1) pre.length dep) := by
  have h0 := h.sign hm
  rw [notM_rep (by rw [sb_base 40 h0]; decide)]
  rcases atom_in hs h hm hd hn with ha | ⟨p, ha⟩
  · exact .inl (repM_one ha he)
  · exact .inr ⟨p, repM_err ha⟩
theorem star_in (hs : Said s r bs) (h : Bases T ms) {pre post : List Tok} (hm : ms = pre ++ (sb 40 :: (bs ++ sb 41 :: sb 42 :: post))) {n dep : Nat} (hd : dep ≤ 32) (hn : 33 ≤ n + (dep + 1)) (f : Nat) :
    notM (repM (atomM notNone (altM notNone T n) T) T) T (f + 1) pre.length dep = .ok (.mk 8 [] Se.none [r] 0 (-1), pre.length + bs.length + 3) ∨ Deep8 (notM (repM (atomM notNone (altM notNone T n) T) T) T (f + 1) pre.length dep) := by
  have h0 := h.sign hm
  rw [notM_rep (by rw [sb_base 40 h0]; decide)]
  rcases atom_in hs h hm hd hn with ha | ⟨p, ha⟩
  · left
    have h1 : (tokAt T (pre.length + bs.length + 2)).base = sb 42 := by
      have := h.sign (pre := pre ++ sb 40 :: (bs ++ [sb 41])) (c := 42) (post := post) (by rw [hm]; simp)
      rw [← this]
      congr 2
      simp; omega
    unfold repM
    simp only [ha, oftenM, sb_base 42 h1]
    rfl
  · exact .inr ⟨p, repM_err ha⟩
theorem catM_one {part : Nat → Nat → R} {T : List Tok} {a dep a1 : Nat} {r : Re} (h : part a dep = .ok (r, a1)) (h1 : isB (tokAt T a1) [33] = false) (h2 : beginsB (tokAt T a1) = false) : catM part T a dep = .ok (r, a1) := by
  unfold catM
  simp only [h, catLoop, h1, h2, joinedM]
  simp
theorem catM_two {part : Nat → Nat → R} {T : List Tok} {a dep a1 a2 : Nat} {r r2 : Re} (hT : 1 ≤ T.length) (h : part a dep = .ok (r, a1)) (hb : beginsB (tokAt T a1) = true) (h2 : part a1 dep = .ok (r2, a2)) (he : Ends (tokAt T a2)) : catM part T a dep = .ok (.mk 4 [] Se.none [r, r2] 0 0, a2) := by
  unfold catM
  rw [show T.length + 1 = (T.length - 1) + 1 + 1 by omega]
  simp only [h, catLoop, hb, h2, he.s 33 (by decide), he.b, joinedM]
  simp
theorem catM_two_err {part : Nat → Nat → R} {T : List Tok} {a dep a1 : Nat} {r : Re} {e : Int × Int} (h : part a dep = .ok (r, a1)) (hb : beginsB (tokAt T a1) = true) (h2 : part a1 dep = .error e) : catM part T a dep = .error e := by
  unfold catM
  simp only [h, catLoop, hb, h2]
  simp
theorem rowM_two {part : Nat → Nat → R} {kind : Int} {c : B} {T : List Tok} {a dep a1 a2 : Nat} {r r2 : Re} (hT : 1 ≤ T.length) (h : part a dep = .ok (r, a1)) (hb : isB (tokAt T a1) [c] = true) (h2 : part (a1 + 1) dep = .ok (r2, a2)) (he : isB (tokAt T a2) [c] = false) : rowM kind [c] part T a dep = .ok (.mk kind [] Se.none [r, r2] 0 0, a2) := by
  unfold rowM
  rw [show T.length + 1 = (T.length - 1) + 1 + 1 by omega]
  simp only [h, rowLoop, hb, h2, he, joinedM]
  simp
theorem rowM_two_err {part : Nat → Nat → R} {kind : Int} {c : B} {T : List Tok} {a dep a1 : Nat} {r : Re} {e : Int × Int} (h : part a dep = .ok (r, a1)) (hb : isB (tokAt T a1) [c] = true) (h2 : part (a1 + 1) dep = .error e) : rowM kind [c] part T a dep = .error e := by
  unfold rowM
  simp only [h, rowLoop, hb, h2]
  simp

/-- what the parser makes of a whole text -/
theorem parse_of_alt {s' : ByteArray} {ms : List Tok} (hl : Lexes s'.data.toList ms) (hs : s'.size ≤ 65536) {R' : Re} (h : ∀ T, Bases T ms → altM notNone T 33 0 0 = .ok (R', ms.length) ∨ Deep8 (altM notNone T 33 0 0)) :
    parseRe s' = .ok R' ∨ ∃ p, parseRe s' = .error (p, 8) := by
  obtain ⟨ts, h1, h2⟩ := lexes_allT hl hs
  have hb := bases_of (s := s') h2
  unfold parseRe
  rw [h1]
  simp only
  rcases h _ hb with h3 | ⟨p, h3⟩
  · rw [h3]
    unfold closeM
    simp only
    rw [if_neg (by rw [hb.fin]; simp)]
    exact .inl rfl
  · rw [h3]; exact .inr ⟨p, rfl⟩
theorem altM_row {N : Se} {T : List Tok} {f a dep : Nat} : altM N T (f + 1) a dep = rowM 5 [124] (rowM 6 [38] (catM (notM (repM (atomM N (altM N T f) T) T) T 40) T) T) T a dep := rfl
section
variable {s t : ByteArray} {r q : Re} {bs cs : List Tok}
theorem alt_brack (hs : Said s r bs) {T : List Tok} (h : Bases T (sb 40 :: (bs ++ [sb 41]))) : altM notNone T 33 0 0 = .ok (r, (sb 40 :: (bs ++ [sb 41])).length) ∨ Deep8 (altM notNone T 33 0 0) := by
  have hfin : (tokAt T (0 + bs.length + 2)).kind = 0 := by have := h.fin; simpa using this
  have hp := part_in hs h (pre := []) (post := []) rfl (n := 32) (dep := 0) (by omega) (by omega) (.fin hfin) 39
  rcases hp with hp | ⟨p, hp⟩
  · left
    have := altM_ok (f := 32) hp (Ends.fin hfin)
    rw [show (33 : Nat) = 32 + 1 from rfl]
    simpa using this
  · exact .inr ⟨p, altM_err hp⟩
theorem alt_star (hs : Said s r bs) {T : List Tok} (h : Bases T (sb 33 :: sb 40 :: (bs ++ [sb 41, sb 42]))) : altM notNone T 33 0 0 = .ok (.mk 7 [] Se.none [.mk 8 [] Se.none [r] 0 (-1)] 0 0, (sb 33 :: sb 40 :: (bs ++ [sb 41, sb 42])).length) ∨ Deep8 (altM notNone T 33 0 0) := by
  have hfin : (tokAt T (1 + bs.length + 3)).kind = 0 := by
    have := h.fin
    rw [show 1 + bs.length + 3 = (sb 33 :: sb 40 :: (bs ++ [sb 41, sb 42])).length by simp; omega]
    exact this
  have h0 : (tokAt T 0).base = sb 33 := h.sign (pre := []) rfl
  have hp := star_in hs h (pre := [sb 33]) (post := []) rfl (n := 32) (dep := 1) (by omega) (by omega) 38
  rcases hp with hp | ⟨p, hp⟩
  · left
    have := altM_ok (f := 32) (a := 0) (dep := 0) (notM_ok (by rw [sb_base 33 h0]; decide) (by omega) hp) (Ends.fin hfin)
    rw [show (33 : Nat) = 32 + 1 from rfl, this]
    congr 2
    simp; omega
  · exact .inr ⟨p, altM_err (notM_err (by rw [sb_base 33 h0]; decide) (by omega) hp)⟩
theorem alt_cat (hs : Said s r bs) (ht : Said t q cs) {T : List Tok} (h : Bases T (sb 40 :: (bs ++ sb 41 :: sb 40 :: (cs ++ [sb 41])))) : altM notNone T 33 0 0 = .ok (.mk 4 [] Se.none [r, q] 0 0, (sb 40 :: (bs ++ sb 41 :: sb 40 :: (cs ++ [sb 41]))).length) ∨ Deep8 (altM notNone T 33 0 0) := by
  have hle : (sb 40 :: (bs ++ sb 41 :: sb 40 :: (cs ++ [sb 41]))).length = bs.length + 2 + cs.length + 2 := by simp; omega
  have hfin : (tokAt T (bs.length + 2 + cs.length + 2)).kind = 0 := by rw [← hle]; exact h.fin
  have h40 : (tokAt T (0 + bs.length + 2)).base = sb 40 := by
    have := h.sign (pre := sb 40 :: (bs ++ [sb 41])) (c := 40) (post := cs ++ [sb 41]) (by simp)
    rw [← this]; congr 2; simp
  have hT : 1 ≤ T.length := by rw [h.len]; omega
  have hp := part_in hs h (pre := []) rfl (n := 32) (dep := 0) (by omega) (by omega) (.sb h40 (by decide) (by decide) (by decide) (by decide)) 39
  have hpl : (sb 40 :: (bs ++ [sb 41])).length = bs.length + 2 := by simp
  have hq := part_in ht h (pre := sb 40 :: (bs ++ [sb 41])) (post := []) (by simp) (n := 32) (dep := 0) (by omega) (by omega) (.fin (by rw [hpl]; exact hfin)) 39
  rw [hpl] at hq
  simp only [List.length_nil, Nat.zero_add] at hp h40
  have hbg : beginsB (tokAt T (bs.length + 2)) = true := by rw [begins_same (t := sb 40) h40]; rfl
  rw [show (33 : Nat) = 32 + 1 from rfl, altM_row, hle]
  rcases hp with hp | ⟨p, hp⟩
  · rcases hq with hq | ⟨p, hq⟩
    · left
      exact rowM_ok (rowM_ok (catM_two hT hp hbg hq (.fin hfin)) ((Ends.fin hfin).s 38 (by decide))) ((Ends.fin hfin).s 124 (by decide))
    · exact .inr ⟨p, rowM_err (rowM_err (catM_two_err hp hbg hq))⟩
  · exact .inr ⟨p, rowM_err (rowM_err (catM_err hp))⟩
theorem alt_bar (hs : Said s r bs) (ht : Said t q cs) {T : List Tok} (h : Bases T (sb 40 :: (bs ++ sb 41 :: sb 124 :: sb 40 :: (cs ++ [sb 41])))) : altM notNone T 33 0 0 = .ok (.mk 5 [] Se.none [r, q] 0 0, (sb 40 :: (bs ++ sb 41 :: sb 124 :: sb 40 :: (cs ++ [sb 41]))).length) ∨ Deep8 (altM notNone T 33 0 0) := by
  have hle : (sb 40 :: (bs ++ sb 41 :: sb 124 :: sb 40 :: (cs ++ [sb 41]))).length = bs.length + 3 + cs.length + 2 := by simp; omega
  have hfin : (tokAt T (bs.length + 3 + cs.length + 2)).kind = 0 := by rw [← hle]; exact h.fin
  have h40 : (tokAt T (0 + bs.length + 2)).base = sb 124 := by
    have := h.sign (pre := sb 40 :: (bs ++ [sb 41])) (c := 124) (post := sb 40 :: (cs ++ [sb 41])) (by simp)
    rw [← this]; congr 2; simp
  have hT : 1 ≤ T.length := by rw [h.len]; omega
  have hp := part_in hs h (pre := []) rfl (n := 32) (dep := 0) (by omega) (by omega) (.sb h40 (by decide) (by decide) (by decide) (by decide)) 39
  have hpl : (sb 40 :: (bs ++ [sb 41, sb 124])).length = bs.length + 3 := by simp
  have hq := part_in ht h (pre := sb 40 :: (bs ++ [sb 41, sb 124])) (post := []) (by simp) (n := 32) (dep := 0) (by omega) (by omega) (.fin (by rw [hpl]; exact hfin)) 39
  rw [hpl] at hq
  simp only [List.length_nil, Nat.zero_add] at hp h40
  have hbg : beginsB (tokAt T (bs.length + 2)) = false := by rw [begins_same (t := sb 124) h40]; rfl
  rw [show (33 : Nat) = 32 + 1 from rfl, altM_row, hle]
  rcases hp with hp | ⟨p, hp⟩
  · have h1 := rowM_ok (kind := 6) (c := 38) (catM_one hp (by rw [sb_base 124 h40]; decide) hbg) (by rw [sb_base 124 h40]; decide)
    rcases hq with hq | ⟨p, hq⟩
    · left
      have h2 := rowM_ok (kind := 6) (c := 38) (catM_ok hq (.fin hfin)) ((Ends.fin hfin).s 38 (by decide))
      exact rowM_two hT h1 (by rw [sb_base 124 h40]; decide) h2 ((Ends.fin hfin).s 124 (by decide))
    · exact .inr ⟨p, rowM_two_err h1 (by rw [sb_base 124 h40]; decide) (rowM_err (catM_err hq))⟩
  · exact .inr ⟨p, rowM_err (rowM_err (catM_err hp))⟩
theorem alt_amp (hs : Said s r bs) (ht : Said t q cs) {T : List Tok} (h : Bases T (sb 40 :: (bs ++ sb 41 :: sb 38 :: sb 40 :: (cs ++ [sb 41])))) : altM notNone T 33 0 0 = .ok (.mk 6 [] Se.none [r, q] 0 0, (sb 40 :: (bs ++ sb 41 :: sb 38 :: sb 40 :: (cs ++ [sb 41]))).length) ∨ Deep8 (altM notNone T 33 0 0) := by
  have hle : (sb 40 :: (bs ++ sb 41 :: sb 38 :: sb 40 :: (cs ++ [sb 41]))).length = bs.length + 3 + cs.length + 2 := by simp; omega
  have hfin : (tokAt T (bs.length + 3 + cs.length + 2)).kind = 0 := by rw [← hle]; exact h.fin
  have h40 : (tokAt T (0 + bs.length + 2)).base = sb 38 := by
    have := h.sign (pre := sb 40 :: (bs ++ [sb 41])) (c := 38) (post := sb 40 :: (cs ++ [sb 41])) (by simp)
    rw [← this]; congr 2; simp
  have hT : 1 ≤ T.length := by rw [h.len]; omega
  have hp := part_in hs h (pre := []) rfl (n := 32) (dep := 0) (by omega) (by omega) (.sb h40 (by decide) (by decide) (by decide) (by decide)) 39
  have hpl : (sb 40 :: (bs ++ [sb 41, sb 38])).length = bs.length + 3 := by simp
  have hq := part_in ht h (pre := sb 40 :: (bs ++ [sb 41, sb 38])) (post := []) (by simp) (n := 32) (dep := 0) (by omega) (by omega) (.fin (by rw [hpl]; exact hfin)) 39
  rw [hpl] at hq
  simp only [List.length_nil, Nat.zero_add] at hp h40
  have hbg : beginsB (tokAt T (bs.length + 2)) = false := by rw [begins_same (t := sb 38) h40]; rfl
  rw [show (33 : Nat) = 32 + 1 from rfl, altM_row, hle]
  rcases hp with hp | ⟨p, hp⟩
  · have h1 := catM_one hp (by rw [sb_base 38 h40]; decide) hbg
    rcases hq with hq | ⟨p, hq⟩
    · left
      have h2 := catM_ok hq (.fin hfin)
      exact rowM_ok (rowM_two hT h1 (by rw [sb_base 38 h40]; decide) h2 ((Ends.fin hfin).s 38 (by decide))) ((Ends.fin hfin).s 124 (by decide))
    · exact .inr ⟨p, rowM_err (rowM_two_err h1 (by rw [sb_base 38 h40]; decide) (catM_err hq))⟩
  · exact .inr ⟨p, rowM_err (rowM_err (catM_err hp))⟩
end
end
end Go.Proofs.YtfljcfdfgojdoaaGreatDoor

namespace Go.Proofs.YtfljcfdfgojdoaaGreatDoor
open Go.RowKit Go.Lib

abbrev bSet : Se := ⟨0, 17179869184, 0, 0⟩
abbrev awStar : Re := .mk 8 [] Se.none [.mk 2 [] bSet [] 0 0] 0 (-1)
abbrev awOne : Re := .mk 4 [] Se.none [.mk 1 [97] Se.none [] 0 0, awStar] 0 0
abbrev awTwo : Re := .mk 7 [] Se.none [.mk 3 [120] Se.none [] 0 0] 0 0
abbrev awRe : Re := .mk 5 [] Se.none [awOne, awTwo] 0 0
abbrev awText : ByteArray := ⟨#[34, 97, 34, 32, 91, 98, 93, 42, 32, 124, 32, 33, 120]⟩
theorem aw_parse : parseRe awText = .ok awRe := by kernel_rfl
theorem aw_name : NameOk ⟨#[120]⟩ := by
  refine ⟨?_, ?_, ?_, ?_⟩ <;> kernel_rfl
theorem aw_ok : OkRe 5 awRe := by
  have h1 : ∀ n, OkRe (n + 1) (.mk 2 [] bSet [] 0 0) := fun n => by simp only [OkRe]; exact ⟨.set _, by simp⟩
  have h2 : ∀ n, OkRe (n + 1) (.mk 1 [97] Se.none [] 0 0) := fun n => by simp only [OkRe]; exact ⟨.text _ (by simp), by simp⟩
  have h3 : ∀ n, OkRe (n + 1) (.mk 3 [120] Se.none [] 0 0) := fun n => by simp only [OkRe]; exact ⟨.name _ aw_name (by simp), by simp⟩
  have h4 : ∀ n, OkRe (n + 2) awStar := fun n => by
    unfold OkRe
    exact ⟨.rep _ _ (.inl ⟨rfl, .inl rfl⟩), fun p hp => by simp at hp; subst hp; exact h1 n⟩
  have h5 : ∀ n, OkRe (n + 3) awOne := fun n => by
    unfold OkRe
    exact ⟨.cat 2 (by omega), fun p hp => by simp at hp; rcases hp with rfl | rfl; exact h2 _; exact h4 _⟩
  have h6 : ∀ n, OkRe (n + 2) awTwo := fun n => by
    unfold OkRe
    exact ⟨.not, fun p hp => by simp at hp; subst hp; exact h3 n⟩
  unfold OkRe
  exact ⟨.alt 2 (by omega), fun p hp => by simp at hp; rcases hp with rfl | rfl; exact h5 1; exact h6 2⟩

set_option maxRecDepth 100000 in
set_option maxHeartbeats 1000000 in
theorem check_ok {m : Nat} {r : Re} (h : OkRe m r) (hm : m = 200) (F : Nat → Prop) (cs : Array Value) (w : World) (hr : ReIn F w r cs) :
    Calls Tryz.prog 20 #[.agg cs] w fun e w' => e = .returned (.int .i64 0) ∧ Below w.heap.size w w' := by
  obtain ⟨k, x, s, ad, n, cap, mn, mx, rfl⟩ := hr.cells
  subst hm
  have hr1 := ReIn.frame (F := F) (F' := F) (w := w) (w' := w.alloc (.cells (reC k x s (.slice ad n cap) mn mx) 33)) (fun _ h _ => h) (fun q _ hq => alloc_old hq) hr
  go_enter Tryz.func20, Tryz.ntmps20
  go_wp2_with (first | (go_at_call 53; refine (deep_no 200 r h.fits (by omega) F _ _ hr1).mono ?_; rintro e w1 ⟨rfl, hb1⟩; have q0 := (hb1.block w.heap.size (by simp)).trans (heap_alloc_new w (.cells (reC k x s (.slice ad n cap) mn mx) 33)); have hr2 := ReIn.frame (F := F) (F' := F) (w' := w1) (fun _ h _ => h) (fun q _ hq => hb1.block q hq) hr1) | (refine wpList_load_blk rfl 33 (.tmp 1) rfl 9 info27 _ Tryz.underlying33 rfl w.heap.size rfl 33 (reC k x s (.slice ad n cap) mn mx) q0 rfl ?_) | (go_at_call 54; refine (right_yes 200 r h F _ _ hr2).mono ?_; rintro e w2 ⟨rfl, hb2⟩))
  go_ret
  exact ⟨rfl, bnext (((Below.refl _ w).alloc (Nat.le_refl _) _).trans (hb1.mono (by simp))) hb2⟩
theorem OkRe.up : ∀ {n m : Nat} {r : Re}, OkRe n r → n ≤ m → OkRe m r
  | 0, _, _, h, _ => by simp [OkRe] at h
  | n + 1, 0, _, _, h => by omega
  | n + 1, m + 1, .mk _ _ _ ps _ _, h, hm => by
    simp only [OkRe] at h ⊢
    exact ⟨h.1, fun p hp => OkRe.up (h.2 p hp) (by omega)⟩

set_option maxRecDepth 100000 in
set_option maxHeartbeats 1000000 in
theorem of_b (w : World) (g : Nat) (hg : w.heap[g]? = some (.cells #[.int .u8 98] 5 (0, 0))) :
    Calls Tryz.prog 47 #[.slice (some ⟨g, 0, none⟩) 1 1] w fun e w' => e = .returned bSet.v ∧ Below w.heap.size w w' := by
  have hl := (Array.getElem?_eq_some_iff.1 hg).1
  have c0 : w.cell? ⟨g, 0, none⟩ = some (.int .u8 98) := cell_of_row _ _ 0 _ _ _ hg
  go_enter Tryz.func47, Tryz.ntmps47
  go_wp2
  refine wp_loop_rounds 2 ?_
  rw [rounds_succ]
  go_wp2
  rw [rounds_succ]
  go_wp2
  have hbit : bits .or .u64 0 17179869184 = 17179869184 := by kernel_rfl
  rw [hbit]
  exact bodyPost_ret (v := bSet.v) (by simp [results, Tryz.results47, go_sem]) rfl ⟨rfl, (((Below.refl _ w).alloc (Nat.le_refl _) _).alloc (by simp) _)⟩
end Go.Proofs.YtfljcfdfgojdoaaGreatDoor
