/-
  Plain: the tokens of a written expression are parsed as that expression.
-/
import Derived.Test.YtfljcfdfgojdoaaGreatDoorAa27
import Derived.Test.YtfljcfdfgojdoaaGreatDoorAa31
namespace Go.Proofs.YtfljcfdfgojdoaaGreatDoor.Sh
open Go.RowKit Go.Lib Go.Proofs.YtfljcfdfgojdoaaGreatDoor

/-- these tokens stand in T from a on, places aside -/
def TA (T : List Tok) (a : Nat) : List Tok → Prop
  | [] => True
  | t :: l => (tokAt T a).base = t.base ∧ TA T (a + 1) l
theorem TA.app {T : List Tok} : ∀ {l : List Tok} {a : Nat} {m : List Tok}, TA T a (l ++ m) ↔ TA T a l ∧ TA T (a + l.length) m
  | [], a, m => by simp [TA]
  | t :: l, a, m => by
    rw [List.cons_append, TA, TA, TA.app, List.length_cons, and_assoc, show a + 1 + l.length = a + (l.length + 1) by omega]
theorem TA.isB {T : List Tok} {a : Nat} {t : Tok} {l : List Tok} (h : TA T a (t :: l)) (s : List B) : isB (tokAt T a) s = Go.Proofs.YtfljcfdfgojdoaaGreatDoor.isB t s := isB_same h.1 s
theorem TA.begins {T : List Tok} {a : Nat} {t : Tok} {l : List Tok} (h : TA T a (t :: l)) : beginsB (tokAt T a) = beginsB t := begins_same h.1
/-- what may stand behind an expression that is asked for at a level -/
structure Nx (q : Nat) (t : Tok) : Prop where
  r : q ≤ 4 → isB t [42] = false ∧ isB t [43] = false ∧ isB t [63] = false ∧ isB t [123] = false
  c : q ≤ 2 → beginsB t = false ∧ isB t [33] = false
  a : q ≤ 1 → isB t [38] = false
  o : q = 0 → isB t [124] = false
theorem Nx.mono {q q' : Nat} {t : Tok} (h : Nx q t) (hq : q ≤ q') : Nx q' t :=
  ⟨fun k => h.r (by omega), fun k => h.c (by omega), fun k => h.a (by omega), fun k => h.o (by omega)⟩
theorem Nx.same {q : Nat} {t t' : Tok} (h : Nx q t) (he : t'.base = t.base) : Nx q t' :=
  ⟨fun k => by rw [isB_same he, isB_same he, isB_same he, isB_same he]; exact h.r k, fun k => by rw [begins_same he, isB_same he]; exact h.c k,
   fun k => by rw [isB_same he]; exact h.a k, fun k => by rw [isB_same he]; exact h.o k⟩
theorem Nx.five (t : Tok) : Nx 5 t := ⟨fun k => by omega, fun k => by omega, fun k => by omega, fun k => by omega⟩
theorem Nx.shut : Nx 0 (sb 41) := ⟨fun _ => ⟨rfl, rfl, rfl, rfl⟩, fun _ => ⟨rfl, rfl⟩, fun _ => rfl, fun _ => rfl⟩
theorem Nx.bar : Nx 1 (sb 124) := ⟨fun _ => ⟨rfl, rfl, rfl, rfl⟩, fun _ => ⟨rfl, rfl⟩, fun _ => rfl, fun k => by omega⟩
theorem Nx.amp : Nx 2 (sb 38) := ⟨fun _ => ⟨rfl, rfl, rfl, rfl⟩, fun _ => ⟨rfl, rfl⟩, fun k => by omega, fun k => by omega⟩
theorem Nx.ends {t : Tok} (h : Ends t) : Nx 0 t :=
  ⟨fun _ => ⟨h.s 42 (by decide), h.s 43 (by decide), h.s 63 (by decide), h.s 123 (by decide)⟩, fun _ => ⟨h.b, h.s 33 (by decide)⟩, fun _ => h.s 38 (by decide), fun _ => h.s 124 (by decide)⟩
/-- the parser at a level; n: the fuel of what stands in brackets, f: of signs that say not -/
def Pq (n : Nat) (T : List Tok) (q f a dep : Nat) : R :=
  match q with
  | 0 => rowM 5 [124] (rowM 6 [38] (catM (notM (repM (atomM notNone (altM notNone T n) T) T) T 40) T) T) T a dep
  | 1 => rowM 6 [38] (catM (notM (repM (atomM notNone (altM notNone T n) T) T) T 40) T) T a dep
  | 2 => catM (notM (repM (atomM notNone (altM notNone T n) T) T) T 40) T a dep
  | 3 => notM (repM (atomM notNone (altM notNone T n) T) T) T f a dep
  | 4 => repM (atomM notNone (altM notNone T n) T) T a dep
  | _ => atomM notNone (altM notNone T n) T a dep
theorem Pq_alt (n : Nat) (T : List Tok) (f a dep : Nat) : altM notNone T (n + 1) a dep = Pq n T 0 f a dep := rfl
theorem down1 {n : Nat} {T : List Tok} {j f a dep e : Nat} {r : Re} (hj : j < 5) (hd : dep ≤ 32) (h : ∀ f, 33 ≤ f + dep → Pq n T (j + 1) f a dep = .ok (r, e)) (hx : Nx j (tokAt T e)) (hn : j = 3 → isB (tokAt T a) [33] = false) (hf : 33 ≤ f + dep) :
    Pq n T j f a dep = .ok (r, e) := by
  rcases (by omega : j = 0 ∨ j = 1 ∨ j = 2 ∨ j = 3 ∨ j = 4) with rfl | rfl | rfl | rfl | rfl
  · exact rowM_ok (h 40 (by omega)) (hx.o rfl)
  · exact rowM_ok (h 40 (by omega)) (hx.a (by omega))
  · have h1 : notM (repM (atomM notNone (altM notNone T n) T) T) T 40 a dep = .ok (r, e) := h 40 (by omega)
    obtain ⟨c1, c2⟩ := hx.c (by omega)
    show catM _ T a dep = _
    unfold catM
    simp only [h1, catLoop, c1, c2, joinedM]
    simp
  · have h1 : repM (atomM notNone (altM notNone T n) T) T a dep = .ok (r, e) := h 40 (by omega)
    obtain ⟨f, rfl⟩ : ∃ g, f = g + 1 := ⟨f - 1, by omega⟩
    show notM _ T (f + 1) a dep = _
    rw [notM_rep (hn rfl), h1]
  · have h1 : atomM notNone (altM notNone T n) T a dep = .ok (r, e) := h 40 (by omega)
    obtain ⟨c1, c2, c3, c4⟩ := hx.r (by omega)
    show repM _ T a dep = _
    unfold repM
    simp only [h1, oftenM, c1, c2, c3, c4]
    simp
theorem down {n : Nat} {T : List Tok} {a dep e : Nat} {r : Re} (hd : dep ≤ 32) : ∀ (i j f : Nat), i + j ≤ 5 → (∀ f, 33 ≤ f + dep → Pq n T (i + j) f a dep = .ok (r, e)) → Nx j (tokAt T e) → (4 ≤ i + j → isB (tokAt T a) [33] = false) → 33 ≤ f + dep → Pq n T j f a dep = .ok (r, e)
  | 0, j, f, _, h, _, _, hf => by rw [Nat.zero_add] at h; exact h f hf
  | i + 1, j, f, hi, h, hx, hn, hf => by
    refine down1 (by omega) hd (fun f hf => ?_) hx (fun hj => hn (by omega)) hf
    exact down hd i (j + 1) f (by omega) (fun f hf => by rw [show i + (j + 1) = i + 1 + j by omega]; exact h f hf) (hx.mono (by omega)) (fun h4 => hn (by omega)) hf
theorem lev_le (r : Re) : lev r ≤ 5 := by
  obtain ⟨k, _, _, _, _, _⟩ := r
  show levK k ≤ 5
  unfold levK
  split <;> (try omega)
  split <;> (try omega)
  split <;> (try omega)
  split <;> (try omega)
  split <;> omega
/-- the first token of an expression -/
def FirstT (q : Nat) (l : List Tok) : Prop := ∃ t m, l = t :: m ∧ (beginsB t = true ∨ isB t [33] = true) ∧ (4 ≤ q → isB t [33] = false)
theorem FirstT.app {q : Nat} {l m : List Tok} (h : FirstT q l) : FirstT q (l ++ m) := by
  obtain ⟨t, l', rfl, h1, h2⟩ := h
  exact ⟨t, l' ++ m, rfl, h1, h2⟩
theorem first_opn (q : Nat) (l : List Tok) : FirstT q (sb 40 :: l) := ⟨_, _, rfl, .inl rfl, fun _ => rfl⟩
theorem leaf_first {k : Int} {x : List B} {s : Se} {n : Nat} {mn mx : Int} (hn : Node k x s n mn mx) (hk : k = 1 ∨ k = 2 ∨ k = 3) (q : Nat) : FirstT q [leafT k x s] := by
  cases hn with
  | text x h => exact ⟨_, _, rfl, .inl rfl, fun _ => rfl⟩
  | set s =>
    by_cases ha : isAll s = true
    · refine ⟨sb 46, [], ?_, .inl rfl, fun _ => rfl⟩
      unfold leafT
      simp [ha]
    · refine ⟨tS s, [], ?_, .inl rfl, fun _ => rfl⟩
      unfold leafT
      simp [ha]
  | name x h hx =>
    obtain ⟨_, _, _, _, _, hr⟩ := name_of h
    refine ⟨nT x, [], rfl, .inl ?_, fun _ => rfl⟩
    show (!reservedB x) = true
    rw [hr]; rfl
  | cat n h => omega
  | alt n h => omega
  | and n h => omega
  | not => omega
  | rep a b h => omega
theorem first_parts {sT : List Tok} {asked q : Nat} {ps : List Re} (hl : 1 ≤ ps.length) (h : ∀ p ∈ ps, FirstT q (askT p asked)) : FirstT q (partsT sT asked ps) := by
  rcases ps with _ | ⟨p, ps⟩
  · simp at hl
  · rw [partsT]
    exact (h p List.mem_cons_self).app
theorem first_re : ∀ (h : Nat) (r : Re), OkRe h r → (∀ q, (q ≤ 3 ∨ 4 ≤ lev r) → FirstT q (reT r)) ∧ ∀ q, q ≤ 5 → FirstT q (askT r q)
  | 0, r, hr => by simp [OkRe] at hr
  | h + 1, .mk k x s ps mn mx, hr => by
    have hr' : Node k x s ps.length mn mx ∧ ∀ p ∈ ps, OkRe h p := by simpa [OkRe] using hr
    obtain ⟨hn, hp⟩ := hr'
    have ih : ∀ p ∈ ps, ∀ q, q ≤ 5 → FirstT q (askT p q) := fun p hpp => (first_re h p (hp p hpp)).2
    clear hr hp
    have main : ∀ q, (q ≤ 3 ∨ 4 ≤ lev (.mk k x s ps mn mx)) → FirstT q (reT (.mk k x s ps mn mx)) := by
      intro q hq
      have hq' : q ≤ 3 ∨ 4 ≤ levK k := hq
      have up : ∀ {l : List Tok} {q' : Nat}, q ≤ 3 → FirstT q' l → FirstT q l := fun h3 ⟨t, m, e, a, _⟩ => ⟨t, m, e, a, fun h => by omega⟩
      generalize hl : ps.length = n at hn
      rw [reT]
      have hleaf := fun hk => leaf_first hn hk q
      cases hn with
      | text x h => exact hleaf (.inl rfl)
      | set s => exact hleaf (.inr (.inl rfl))
      | name x h hx => exact hleaf (.inr (.inr rfl))
      | cat n h =>
        have h3 : q ≤ 3 := hq'.resolve_right (by decide)
        exact up h3 (first_parts (sT := []) (asked := 3) (by omega) fun p hpp => ih p hpp 3 (by omega))
      | alt n h =>
        have h3 : q ≤ 3 := hq'.resolve_right (by decide)
        exact up h3 (first_parts (sT := [sb 124]) (asked := 1) (by omega) fun p hpp => ih p hpp 1 (by omega))
      | and n h =>
        have h3 : q ≤ 3 := hq'.resolve_right (by decide)
        exact up h3 (first_parts (sT := [sb 38]) (asked := 2) (by omega) fun p hpp => ih p hpp 2 (by omega))
      | not =>
        have h3 : q ≤ 3 := hq'.resolve_right (by decide)
        exact ⟨sb 33, _, rfl, .inr rfl, fun h => by omega⟩
      | rep a b h =>
        obtain ⟨p, rfl⟩ := one_of hl
        have h5 : FirstT 5 (askT p 5) := ih p List.mem_cons_self 5 (by omega)
        obtain ⟨t, m, e, a1, a2⟩ := h5
        simp only [show ¬ (8 : Int) = 7 by decide, if_true, if_false, partsT_one, e]
        exact ⟨t, _, rfl, a1, fun _ => a2 (by omega)⟩
    refine ⟨main, fun q hq => ?_⟩
    unfold askT
    split
    · exact first_opn _ _
    · rename_i hlq
      exact main q (by omega)
theorem FirstT.pos {q : Nat} {l : List Tok} (h : FirstT q l) : 1 ≤ l.length := by
  obtain ⟨t, m, rfl, _⟩ := h; simp
theorem partsD_mem {asked : Nat} : ∀ {l : List Re} {p : Re}, p ∈ l → askD p asked ≤ partsD asked l
  | q :: l, p, h => by
    rw [partsD]
    rcases List.mem_cons.1 h with rfl | h
    · exact Nat.le_max_left _ _
    · exact Nat.le_trans (partsD_mem h) (Nat.le_max_right _ _)
/-- an expression asked for at a level is parsed -/
def Good (T : List Tok) (r : Re) (q : Nat) : Prop :=
  ∀ a dep n f, dep + askD r q ≤ 32 → 32 ≤ n + dep → 33 ≤ f + dep → TA T a (askT r q) → a + (askT r q).length ≤ T.length → Nx q (tokAt T (a + (askT r q).length)) → Pq n T q f a dep = .ok (r, a + (askT r q).length)
/-- what comes behind a part in a row without signs -/
theorem begin_not {t : Tok} (h : beginsB t = true ∨ isB t [33] = true) : isB t [42] = false ∧ isB t [43] = false ∧ isB t [63] = false ∧ isB t [123] = false := by
  obtain ⟨k, x, s, n, p⟩ := t
  unfold beginsB isB at *
  simp only at *
  by_cases hk : k = 4
  · subst hk
    simp only [beq_self_eq_true, Bool.true_and, show ((4 : Int) == 2) = false from rfl, show ((4 : Int) == 3) = false from rfl, show ((4 : Int) == 1) = false from rfl, Bool.false_eq_true, or_self, if_false] at h ⊢
    simp only [Bool.or_eq_true, beq_iff_eq] at h
    rcases h with (rfl | rfl) | rfl
    · exact ⟨rfl, rfl, rfl, rfl⟩
    · exact ⟨rfl, rfl, rfl, rfl⟩
    · exact ⟨rfl, rfl, rfl, rfl⟩
  · have : (k == 4) = false := by simpa using hk
    rw [this]
    exact ⟨rfl, rfl, rfl, rfl⟩
theorem Nx.first {t : Tok} (h : beginsB t = true ∨ isB t [33] = true) : Nx 3 t := ⟨fun _ => begin_not h, fun k => by omega, fun k => by omega, fun k => by omega⟩
theorem cat_back {T : List Tok} {n dep : Nat} (hd : dep ≤ 32) (hn : 32 ≤ n + dep) : ∀ (l acc : List Re) (a f : Nat), l.length < f → (∀ p ∈ l, Good T p 3 ∧ dep + askD p 3 ≤ 32 ∧ FirstT 3 (askT p 3)) → TA T a (tailT [] 3 l) → a + (tailT [] 3 l).length ≤ T.length → Nx 2 (tokAt T (a + (tailT [] 3 l).length)) →
    catLoop (notM (repM (atomM notNone (altM notNone T n) T) T) T 40) T dep f acc a = .ok (joinedM 4 (acc ++ l), a + (tailT [] 3 l).length)
  | [], acc, a, 0, h, _, _, _, _ => absurd h (by simp)
  | [], acc, a, f + 1, _, _, _, _, hx => by
    rw [tailT, List.length_nil, Nat.add_zero] at hx
    obtain ⟨c1, c2⟩ := hx.c (by omega)
    rw [catLoop, if_neg (by rw [c1, c2]; simp), List.append_nil, tailT]
    rfl
  | p :: l, acc, a, 0, h, _, _, _, _ => absurd h (by simp)
  | p :: l, acc, a, f + 1, hf, hp, ht, hlen, hx => by
    obtain ⟨g1, g2, g3⟩ := hp p List.mem_cons_self
    have e : tailT [] 3 (p :: l) = askT p 3 ++ tailT [] 3 l := by rw [tailT]; rfl
    rw [e] at ht hlen hx ⊢
    rw [List.length_append] at hlen hx ⊢
    rw [← Nat.add_assoc] at hlen hx ⊢
    obtain ⟨t1, t2⟩ := TA.app.1 ht
    have hb : (isB (tokAt T a) [33] || beginsB (tokAt T a)) = true := by
      obtain ⟨t, m, e1, e2, _⟩ := g3
      rw [e1] at t1
      rw [t1.isB, t1.begins]
      rcases e2 with e2 | e2 <;> simp [e2]
    have hnx : Nx 3 (tokAt T (a + (askT p 3).length)) := by
      rcases l with _ | ⟨p2, l⟩
      · rw [tailT, List.length_nil, Nat.add_zero] at hx
        exact hx.mono (by omega)
      · have e2 : tailT [] 3 (p2 :: l) = askT p2 3 ++ tailT [] 3 l := by rw [tailT]; rfl
        rw [e2] at t2
        obtain ⟨t, m, e1, e3, _⟩ := (hp p2 (by simp)).2.2
        obtain ⟨t3, _⟩ := TA.app.1 t2
        rw [e1] at t3
        refine Nx.first ?_
        rw [t3.isB, t3.begins]
        exact e3
    have h1 : notM (repM (atomM notNone (altM notNone T n) T) T) T 40 a dep = .ok (p, a + (askT p 3).length) := g1 a dep n 40 g2 hn (by omega) t1 (by omega) hnx
    rw [catLoop, if_pos hb, h1]
    simp only
    rw [cat_back hd hn l (acc ++ [p]) (a + (askT p 3).length) f (by simpa using hf) (fun q hq => hp q (List.mem_cons_of_mem _ hq)) t2 hlen hx]
    simp
theorem row_back2 {T : List Tok} {n dep : Nat} {kind : Int} {c : B} {q : Nat} (hd : dep ≤ 32) (hn : 32 ≤ n + dep) (hc : Nx q (sb c)) : ∀ (l acc : List Re) (a f : Nat), l.length < f → (∀ p ∈ l, Good T p q ∧ dep + askD p q ≤ 32) → TA T a (tailT [sb c] q l) → a + (tailT [sb c] q l).length ≤ T.length → Nx q (tokAt T (a + (tailT [sb c] q l).length)) → isB (tokAt T (a + (tailT [sb c] q l).length)) [c] = false →
    rowLoop (Pq n T q 40) T dep kind [c] f acc a = .ok (joinedM kind (acc ++ l), a + (tailT [sb c] q l).length)
  | [], acc, a, 0, h, _, _, _, _, _ => absurd h (by simp)
  | [], acc, a, f + 1, _, _, _, _, hx, hs => by
    rw [tailT, List.length_nil, Nat.add_zero] at hx hs
    rw [rowLoop, if_neg (by rw [hs]; simp), List.append_nil, tailT]
    rfl
  | p :: l, acc, a, 0, h, _, _, _, _, _ => absurd h (by simp)
  | p :: l, acc, a, f + 1, hf, hp, ht, hlen, hx, hs => by
    obtain ⟨g1, g2⟩ := hp p List.mem_cons_self
    have e : tailT [sb c] q (p :: l) = sb c :: (askT p q ++ tailT [sb c] q l) := by rw [tailT]; rfl
    have el : a + (sb c :: (askT p q ++ tailT [sb c] q l)).length = a + 1 + (askT p q).length + (tailT [sb c] q l).length := by simp; omega
    rw [e] at ht
    rw [e, el] at hlen hx hs ⊢
    have hb : isB (tokAt T a) [c] = true := by rw [ht.isB]; show ((4 : Int) == 4 && [c] == [c]) = true; simp
    obtain ⟨t1, t2⟩ := TA.app.1 ht.2
    have hnx : Nx q (tokAt T (a + 1 + (askT p q).length)) := by
      rcases l with _ | ⟨p2, l⟩
      · rw [tailT, List.length_nil, Nat.add_zero] at hx
        exact hx
      · have e2 : tailT [sb c] q (p2 :: l) = sb c :: (askT p2 q ++ tailT [sb c] q l) := by rw [tailT]; rfl
        rw [e2] at t2
        exact hc.same t2.1
    have h1 := g1 (a + 1) dep n 40 g2 hn (by omega) t1 (by omega) hnx
    rw [rowLoop, if_pos hb, h1]
    simp only
    rw [row_back2 hd hn hc l (acc ++ [p]) (a + 1 + (askT p q).length) f (by simpa using hf) (fun q hq => hp q (List.mem_cons_of_mem _ hq)) t2 hlen hx hs]
    simp
theorem joined_two {kind : Int} {l : List Re} (h : 2 ≤ l.length) : joinedM kind l = .mk kind [] Se.none l 0 0 := by
  rcases l with _ | ⟨p, _ | ⟨q, l⟩⟩
  · simp at h
  · simp at h
  · rfl
theorem tail_len {sT : List Tok} {asked : Nat} : ∀ {l : List Re}, (∀ p ∈ l, FirstT 3 (askT p asked)) → l.length ≤ (tailT sT asked l).length
  | [], _ => by simp
  | p :: l, h => by
    have h1 := (h p List.mem_cons_self).pos
    have h2 := tail_len (sT := sT) fun q hq => h q (List.mem_cons_of_mem _ hq)
    rw [tailT]
    show _ ≤ (sT ++ (askT p asked ++ tailT sT asked l)).length
    simp only [List.length_append, List.length_cons]
    omega
theorem leaf_back {T : List Tok} {n dep a : Nat} {k : Int} {x : List B} {s : Se} {mn mx : Int} (hn : Node k x s 0 mn mx) (hk : k = 1 ∨ k = 2 ∨ k = 3) (ht : TA T a [leafT k x s]) : atomM notNone (altM notNone T n) T a dep = .ok (.mk k x s [] mn mx, a + 1) := by
  have hbase := ht.1
  obtain ⟨b1, b2, b3, _⟩ := base_parts hbase
  cases hn with
  | text x h =>
    have c1 : (tokAt T a).kind = 2 := b1
    have c2 : (tokAt T a).text = x := b2
    unfold atomM
    rw [if_neg (by rw [ht.isB]; exact Bool.false_ne_true)]
    unfold leafM
    simp only [c1, c2]
    rfl
  | set s =>
    by_cases ha : isAll s = true
    · have e : leafT 2 [] s = sb 46 := by unfold leafT; simp [ha]
      rw [e] at ht b1
      have c1 : (tokAt T a).kind = 4 := b1
      have hdot : isB (tokAt T a) [46] = true := by rw [ht.isB]; rfl
      obtain rfl := isAll_eq.1 ha
      unfold atomM
      rw [if_neg (by rw [ht.isB]; exact Bool.false_ne_true)]
      unfold leafM
      simp only [c1]
      rw [if_neg (by decide), if_neg (by decide), if_neg (by decide), if_pos hdot]
    · have e : leafT 2 [] s = tS s := by unfold leafT; simp [ha]
      rw [e] at ht b1 b3
      have c1 : (tokAt T a).kind = 3 := b1
      have c3 : (tokAt T a).set = s := b3
      unfold atomM
      rw [if_neg (by rw [ht.isB]; exact Bool.false_ne_true)]
      unfold leafM
      simp only [c1, c3]
      rfl
  | name x h hx =>
    have c1 : (tokAt T a).kind = 1 := b1
    have c2 : (tokAt T a).text = x := b2
    obtain ⟨_, _, _, _, _, hr⟩ := name_of h
    unfold atomM
    rw [if_neg (by rw [ht.isB]; exact Bool.false_ne_true)]
    unfold leafM nameM
    simp only [c1, c2, hr]
    rfl
  | cat n h => omega
  | alt n h => omega
  | and n h => omega
theorem often_back {T : List Tok} {a1 : Nat} {lo hi : Int} (hok : oftOk lo hi) (ht : TA T a1 (oftT lo hi)) {p : Re} {atom : Nat → Nat → R} {a dep : Nat} (h : atom a dep = .ok (p, a1)) : repM atom T a dep = .ok (.mk 8 [] Se.none [p] lo hi, a1 + (oftT lo hi).length) := by
  unfold repM
  simp only [h]
  unfold oftT at ht ⊢
  by_cases h1 : lo = 0 ∧ hi = -1
  · rw [if_pos h1] at ht ⊢
    obtain ⟨rfl, rfl⟩ := h1
    unfold oftenM
    simp only [show isB (tokAt T a1) [42] = true by rw [ht.isB]; rfl, if_true]
    rfl
  · rw [if_neg h1] at ht ⊢
    by_cases h2 : lo = 1 ∧ hi = -1
    · rw [if_pos h2] at ht ⊢
      obtain ⟨rfl, rfl⟩ := h2
      unfold oftenM
      simp only [show isB (tokAt T a1) [42] = false by rw [ht.isB]; rfl, show isB (tokAt T a1) [43] = true by rw [ht.isB]; rfl, if_true, Bool.false_eq_true, if_false]
      rfl
    · rw [if_neg h2] at ht ⊢
      by_cases h3 : lo = 0 ∧ hi = 1
      · rw [if_pos h3] at ht ⊢
        obtain ⟨rfl, rfl⟩ := h3
        unfold oftenM
        simp only [show isB (tokAt T a1) [42] = false by rw [ht.isB]; rfl, show isB (tokAt T a1) [43] = false by rw [ht.isB]; rfl, show isB (tokAt T a1) [63] = true by rw [ht.isB]; rfl, if_true, Bool.false_eq_true, if_false]
        rfl
      · rw [if_neg h3] at ht ⊢
        have hb : 0 ≤ lo ∧ lo ≤ hi ∧ hi ≤ 64 := by
          rcases hok with h | h | h
          · exact absurd h h1
          · exact absurd h h2
          · exact h
        have hnum : ∀ {b : Nat} {v least : Int} {l : List Tok}, TA T b (numT v :: l) → least ≤ v → v ≤ 64 → numberM T b least = .ok (v, b + 1) := fun {b v least l} hb h1 h2 => by
          obtain ⟨b1, _, _, b4⟩ := base_parts hb.1
          have c1 : (tokAt T b).kind = 5 := b1
          have c4 : (tokAt T b).num = v := b4
          unfold numberM
          simp only [c1, c4]
          rw [if_neg (by simp; omega)]
        by_cases h4 : lo = hi
        · subst h4
          rw [if_pos rfl] at ht ⊢
          have o : (oftenM T a1).ok = false := by
            unfold oftenM
            simp only [show isB (tokAt T a1) [42] = false by rw [ht.isB]; rfl, show isB (tokAt T a1) [43] = false by rw [ht.isB]; rfl, show isB (tokAt T a1) [63] = false by rw [ht.isB]; rfl, Bool.false_eq_true, if_false]
          have k1 : isB (tokAt T a1) [123] = true := by rw [ht.isB]; rfl
          have n1 := hnum (least := 0) ht.2 hb.1 hb.2.2
          have k2 : isB (tokAt T (a1 + 1 + 1)) [44] = false := by rw [ht.2.2.isB]; rfl
          have k3 : isB (tokAt T (a1 + 1 + 1)) [125] = true := by rw [ht.2.2.isB]; rfl
          simp only [o, k1, n1, k2, k3, if_true, Bool.false_eq_true, if_false]
          rfl
        · rw [if_neg h4] at ht ⊢
          have o : (oftenM T a1).ok = false := by
            unfold oftenM
            simp only [show isB (tokAt T a1) [42] = false by rw [ht.isB]; rfl, show isB (tokAt T a1) [43] = false by rw [ht.isB]; rfl, show isB (tokAt T a1) [63] = false by rw [ht.isB]; rfl, Bool.false_eq_true, if_false]
          have k1 : isB (tokAt T a1) [123] = true := by rw [ht.isB]; rfl
          have n1 := hnum (least := 0) ht.2 hb.1 (by omega)
          have k2 : isB (tokAt T (a1 + 1 + 1)) [44] = true := by rw [ht.2.2.isB]; rfl
          have n2 := hnum (least := lo) ht.2.2.2 hb.2.1 hb.2.2
          have k3 : isB (tokAt T (a1 + 1 + 1 + 1 + 1)) [125] = true := by rw [ht.2.2.2.2.isB]; rfl
          simp only [o, k1, n1, k2, n2, k3, if_true, Bool.false_eq_true, if_false]
          rfl
theorem good_re (T : List Tok) : ∀ (h : Nat) (r : Re), OkRe h r → ∀ q, q ≤ 5 → Good T r q
  | 0, r, hr => by simp [OkRe] at hr
  | h + 1, .mk k x s ps mn mx, hr => by
    have hfirst := first_re (h + 1) _ hr
    have hr' : Node k x s ps.length mn mx ∧ ∀ p ∈ ps, OkRe h p := by simpa [OkRe] using hr
    obtain ⟨hn, hp⟩ := hr'
    have ih : ∀ p ∈ ps, ∀ q, q ≤ 5 → Good T p q := fun p hpp => good_re T h p (hp p hpp)
    have ihf : ∀ p ∈ ps, ∀ q, q ≤ 5 → FirstT q (askT p q) := fun p hpp => (first_re h p (hp p hpp)).2
    clear hr hp
    -- without a bracket of its own
    have own : ∀ a dep n f, dep + reD (.mk k x s ps mn mx) ≤ 32 → 32 ≤ n + dep → 33 ≤ f + dep → TA T a (reT (.mk k x s ps mn mx)) → a + (reT (.mk k x s ps mn mx)).length ≤ T.length → Nx (levK k) (tokAt T (a + (reT (.mk k x s ps mn mx)).length)) →
        Pq n T (levK k) f a dep = .ok (.mk k x s ps mn mx, a + (reT (.mk k x s ps mn mx)).length) := by
      intro a dep n f hd hnf hff ht hlen hx
      have hdp : ∀ p ∈ ps, dep + askD p (needK k) + (if k = 7 then 1 else 0) ≤ 32 := fun p hpp => by
        have := partsD_mem (asked := needK k) hpp
        rw [reD] at hd
        omega
      have hd0 : dep ≤ 32 := by omega
      clear hd
      rw [reT] at ht hlen hx ⊢
      generalize hl : ps.length = m at hn
      have hleaf : m = 0 → (k = 1 ∨ k = 2 ∨ k = 3) → TA T a [leafT k x s] → Pq n T 5 f a dep = .ok (.mk k x s ps mn mx, a + 1) := fun h0 hk htl => by
        subst h0
        obtain rfl := List.length_eq_zero_iff.1 hl
        exact leaf_back hn hk htl
      cases hn with
      | text x h => exact hleaf rfl (.inl rfl) ht
      | set s => exact hleaf rfl (.inr (.inl rfl)) ht
      | name x h hx => exact hleaf rfl (.inr (.inr rfl)) ht
      | cat n h =>
        have hdp3 : ∀ p ∈ ps, dep + askD p 3 ≤ 32 := fun p hpp => hdp p hpp
        change TA T a (partsT [] 3 ps) at ht
        change a + (partsT [] 3 ps).length ≤ T.length at hlen
        change Nx 2 (tokAt T (a + (partsT [] 3 ps).length)) at hx
        show catM _ T a dep = .ok (_, a + (partsT [] 3 ps).length)
        rcases ps with _ | ⟨p, l⟩
        · simp at hl; omega
        · have e : partsT [] 3 (p :: l) = askT p 3 ++ tailT [] 3 l := by rw [partsT]; rfl
          rw [e] at ht hlen hx ⊢
          rw [List.length_append, ← Nat.add_assoc] at hlen hx ⊢
          obtain ⟨t1, t2⟩ := TA.app.1 ht
          have hnx : Nx 3 (tokAt T (a + (askT p 3).length)) := by
            rcases l with _ | ⟨p2, l⟩
            · rw [tailT, List.length_nil, Nat.add_zero] at hx
              exact hx.mono (by omega)
            · have e2 : tailT [] 3 (p2 :: l) = askT p2 3 ++ tailT [] 3 l := by rw [tailT]; rfl
              rw [e2] at t2
              obtain ⟨t, m, e1, e3, _⟩ := ihf p2 (by simp) 3 (by omega)
              obtain ⟨t3, _⟩ := TA.app.1 t2
              rw [e1] at t3
              refine Nx.first ?_
              rw [t3.isB, t3.begins]
              exact e3
          have h1 : notM (repM (atomM notNone (altM notNone T _) T) T) T 40 a dep = .ok (p, a + (askT p 3).length) := ih p List.mem_cons_self 3 (by omega) a dep _ 40 (hdp3 p List.mem_cons_self) hnf (by omega) t1 (by omega) hnx
          unfold catM
          rw [h1]
          simp only
          have hll := tail_len (sT := []) (asked := 3) (l := l) fun q hq => ihf q (List.mem_cons_of_mem _ hq) 3 (by omega)
          rw [cat_back hd0 hnf l [p] _ (T.length + 1) (by omega) (fun q hq => ⟨ih q (List.mem_cons_of_mem _ hq) 3 (by omega), hdp3 q (List.mem_cons_of_mem _ hq), ihf q (List.mem_cons_of_mem _ hq) 3 (by omega)⟩) t2 hlen hx]
          rw [joined_two (by simp at hl ⊢; omega)]
          rfl
      | alt n h =>
        have hdp3 : ∀ p ∈ ps, dep + askD p 1 ≤ 32 := fun p hpp => hdp p hpp
        change TA T a (partsT [sb 124] 1 ps) at ht
        change a + (partsT [sb 124] 1 ps).length ≤ T.length at hlen
        change Nx 0 (tokAt T (a + (partsT [sb 124] 1 ps).length)) at hx
        show rowM 5 [124] _ T a dep = .ok (_, a + (partsT [sb 124] 1 ps).length)
        rcases ps with _ | ⟨p, l⟩
        · simp at hl; omega
        · have e : partsT [sb 124] 1 (p :: l) = askT p 1 ++ tailT [sb 124] 1 l := by rw [partsT]; rfl
          rw [e] at ht hlen hx ⊢
          rw [List.length_append, ← Nat.add_assoc] at hlen hx ⊢
          obtain ⟨t1, t2⟩ := TA.app.1 ht
          have hnx : Nx 1 (tokAt T (a + (askT p 1).length)) := by
            rcases l with _ | ⟨p2, l⟩
            · rw [tailT, List.length_nil, Nat.add_zero] at hx
              exact hx.mono (by omega)
            · have e2 : tailT [sb 124] 1 (p2 :: l) = sb 124 :: (askT p2 1 ++ tailT [sb 124] 1 l) := by rw [tailT]; rfl
              rw [e2] at t2
              exact Nx.bar.same t2.1
          have h1 := ih p List.mem_cons_self 1 (by omega) a dep _ 40 (hdp3 p List.mem_cons_self) hnf (by omega) t1 (by omega) hnx
          have hll := tail_len (sT := [sb 124]) (asked := 1) (l := l) fun q hq => by
            obtain ⟨t, m, a1, a2, _⟩ := ihf q (List.mem_cons_of_mem _ hq) 1 (by omega)
            exact ⟨t, m, a1, a2, fun h => by omega⟩
          have h2 := row_back2 (kind := 5) hd0 hnf Nx.bar l [p] (a + (askT p 1).length) (T.length + 1) (by omega) (fun q hq => ⟨ih q (List.mem_cons_of_mem _ hq) 1 (by omega), hdp3 q (List.mem_cons_of_mem _ hq)⟩) t2 hlen (hx.mono (by omega)) (hx.o rfl)
          rw [joined_two (by simp at hl ⊢; omega)] at h2
          show (match Pq _ T 1 40 a dep with | .error e => Except.error e | .ok (r, a1) => rowLoop (Pq _ T 1 40) T dep 5 [124] (T.length + 1) [r] a1) = _
          rw [h1]
          exact h2
      | and n h =>
        have hdp3 : ∀ p ∈ ps, dep + askD p 2 ≤ 32 := fun p hpp => hdp p hpp
        change TA T a (partsT [sb 38] 2 ps) at ht
        change a + (partsT [sb 38] 2 ps).length ≤ T.length at hlen
        change Nx 1 (tokAt T (a + (partsT [sb 38] 2 ps).length)) at hx
        show rowM 6 [38] _ T a dep = .ok (_, a + (partsT [sb 38] 2 ps).length)
        rcases ps with _ | ⟨p, l⟩
        · simp at hl; omega
        · have e : partsT [sb 38] 2 (p :: l) = askT p 2 ++ tailT [sb 38] 2 l := by rw [partsT]; rfl
          rw [e] at ht hlen hx ⊢
          rw [List.length_append, ← Nat.add_assoc] at hlen hx ⊢
          obtain ⟨t1, t2⟩ := TA.app.1 ht
          have hnx : Nx 2 (tokAt T (a + (askT p 2).length)) := by
            rcases l with _ | ⟨p2, l⟩
            · rw [tailT, List.length_nil, Nat.add_zero] at hx
              exact hx.mono (by omega)
            · have e2 : tailT [sb 38] 2 (p2 :: l) = sb 38 :: (askT p2 2 ++ tailT [sb 38] 2 l) := by rw [tailT]; rfl
              rw [e2] at t2
              exact Nx.amp.same t2.1
          have h1 := ih p List.mem_cons_self 2 (by omega) a dep _ 40 (hdp3 p List.mem_cons_self) hnf (by omega) t1 (by omega) hnx
          have hll := tail_len (sT := [sb 38]) (asked := 2) (l := l) fun q hq => by
            obtain ⟨t, m, a1, a2, _⟩ := ihf q (List.mem_cons_of_mem _ hq) 2 (by omega)
            exact ⟨t, m, a1, a2, fun h => by omega⟩
          have h2 := row_back2 (kind := 6) hd0 hnf Nx.amp l [p] (a + (askT p 2).length) (T.length + 1) (by omega) (fun q hq => ⟨ih q (List.mem_cons_of_mem _ hq) 2 (by omega), hdp3 q (List.mem_cons_of_mem _ hq)⟩) t2 hlen (hx.mono (by omega)) (hx.a (by omega))
          rw [joined_two (by simp at hl ⊢; omega)] at h2
          show (match Pq _ T 2 40 a dep with | .error e => Except.error e | .ok (r, a1) => rowLoop (Pq _ T 2 40) T dep 6 [38] (T.length + 1) [r] a1) = _
          rw [h1]
          exact h2
      | not =>
        obtain ⟨p, rfl⟩ := one_of hl
        have hd3 : dep + askD p 3 + 1 ≤ 32 := hdp p List.mem_cons_self
        simp only [if_true, partsT_one] at ht hlen hx ⊢
        rw [List.length_cons] at hlen hx ⊢
        rw [show a + ((askT p 3).length + 1) = a + 1 + (askT p 3).length by omega] at hlen hx ⊢
        obtain ⟨f, rfl⟩ : ∃ g, f = g + 1 := ⟨f - 1, by omega⟩
        have h1 : notM (repM (atomM notNone (altM notNone T _) T) T) T f (a + 1) (dep + 1) = .ok (p, a + 1 + (askT p 3).length) := ih p List.mem_cons_self 3 (by omega) (a + 1) (dep + 1) n f (by omega) (by omega) (by omega) ht.2 (by omega) hx
        exact notM_ok (by rw [ht.isB]; rfl) (by omega) h1
      | rep lo hi h =>
        obtain ⟨p, rfl⟩ := one_of hl
        have hd5 : dep + askD p 5 ≤ 32 := hdp p List.mem_cons_self
        simp only [show ¬ (8 : Int) = 7 by decide, if_true, if_false, partsT_one] at ht hlen hx ⊢
        rw [List.length_append, ← Nat.add_assoc] at hlen hx ⊢
        obtain ⟨t1, t2⟩ := TA.app.1 ht
        have h1 : atomM notNone (altM notNone T _) T a dep = .ok (p, a + (askT p 5).length) := ih p List.mem_cons_self 5 (by omega) a dep _ 40 hd5 hnf (by omega) t1 (by omega) (.five _)
        exact often_back (Node.oft (.rep _ _ h)).1 t2 h1
    intro q hq a dep n f hd hnf hff ht hlen hx
    have hlv : lev (.mk k x s ps mn mx) = levK k := rfl
    have hl5 : levK k ≤ 5 := lev_le (.mk k x s ps mn mx)
    by_cases hlt : levK k < q
    · have e1 : askT (.mk k x s ps mn mx) q = sb 40 :: (reT (.mk k x s ps mn mx) ++ [sb 41]) := by unfold askT; rw [hlv, if_pos hlt]
      have e2 : askD (.mk k x s ps mn mx) q = reD (.mk k x s ps mn mx) + 1 := by unfold askD; rw [hlv, if_pos hlt]
      rw [e2] at hd
      rw [e1] at ht
      have el : a + (askT (.mk k x s ps mn mx) q).length = a + 1 + (reT (.mk k x s ps mn mx)).length + 1 := by rw [e1]; simp; omega
      rw [el] at hlen hx ⊢
      generalize hrr : Re.mk k x s ps mn mx = r at *
      obtain ⟨t1, t2⟩ := TA.app.1 ht.2
      obtain ⟨n, rfl⟩ : ∃ g, n = g + 1 := ⟨n - 1, by omega⟩
      have h0 : altM notNone T (n + 1) (a + 1) (dep + 1) = .ok (r, a + 1 + (reT r).length) := by
        rw [Pq_alt n T 40]
        refine down (by omega) (levK k) 0 40 (by omega) (fun f hf => ?_) (Nx.shut.same t2.1) (fun h4 => ?_) (by omega)
        · exact own (a + 1) (dep + 1) n f (by omega) (by omega) hf t1 (by omega) ((Nx.shut.same t2.1).mono (by omega))
        · obtain ⟨t, m, e3, _, e4⟩ := hfirst.1 5 (.inr (by omega))
          rw [e3] at t1
          rw [t1.isB]
          exact e4 (by omega)
      have h5 : ∀ f, Pq (n + 1) T 5 f a dep = .ok (r, a + 1 + (reT r).length + 1) := fun f => by
        show atomM notNone (altM notNone T (n + 1)) T a dep = _
        unfold atomM
        rw [if_pos (by rw [ht.isB]; rfl), if_neg (by omega), h0]
        simp only
        rw [if_pos (by rw [t2.isB]; rfl)]
      exact down (by omega) (5 - q) q f (by omega) (fun f _ => by rw [show 5 - q + q = 5 by omega]; exact h5 f) hx (fun _ => by rw [ht.isB]; rfl) hff
    · have e1 : askT (.mk k x s ps mn mx) q = reT (.mk k x s ps mn mx) := by unfold askT; rw [hlv, if_neg hlt]
      have e2 : askD (.mk k x s ps mn mx) q = reD (.mk k x s ps mn mx) := by unfold askD; rw [hlv, if_neg hlt]; rfl
      rw [e2] at hd
      rw [e1] at ht hlen hx ⊢
      refine down (by omega) (levK k - q) q f (by omega) (fun f hf => ?_) hx (fun h4 => ?_) hff
      · rw [show levK k - q + q = levK k by omega]
        exact own a dep n f hd hnf hf ht hlen (hx.mono (by omega))
      · obtain ⟨t, m, e3, _, e4⟩ := hfirst.1 5 (.inr (by omega))
        rw [e3] at ht
        rw [ht.isB]
        exact e4 (by omega)
theorem ta_of : ∀ {l ts : List Tok} {pre post : List Tok}, ts.map Tok.base = l.map Tok.base → TA (pre ++ ts ++ post) pre.length l
  | [], ts, pre, post, _ => trivial
  | t :: l, [], pre, post, h => by simp at h
  | t :: l, u :: ts, pre, post, h => by
    simp only [List.map_cons, List.cons.injEq] at h
    refine ⟨?_, ?_⟩
    · have : tokAt (pre ++ u :: ts ++ post) pre.length = u := tokAt_of (by simp)
      rw [this]; exact h.1
    · have := ta_of (l := l) (ts := ts) (pre := pre ++ [u]) (post := post) h.2
      simpa using this
theorem tok_base : ∀ (t : Tok), t.pos = 0 → t.base = t := fun t h => by cases t; simp only at h; subst h; rfl
/-- P8.3: what is written is parsed as it was -/
theorem parse_back {h : Nat} {r : Re} (hr : OkRe h r) (hs : SeRe r) (hd : reD r ≤ 32) (hl : (reW setS r).length ≤ 65536) : parseRe ⟨(reW setS r).toArray⟩ = .ok r := by
  have h1 := lex_re h r hr hs [] [] .nil .nil
  rw [List.append_nil, List.append_nil] at h1
  obtain ⟨ts, h2, h3⟩ := lexes_allT (s := ⟨(reW setS r).toArray⟩) (ms := reT r) (by simpa using h1) (by show (reW setS r).toArray.size ≤ _; simpa using hl)
  have hbb : (reT r).map Tok.base = reT r := by
    rw [← h3, List.map_map]
    refine List.map_congr_left fun t _ => ?_
    cases t; rfl
  have hlen : ts.length = (reT r).length := by rw [← h3]; simp
  unfold parseRe
  rw [h2]
  show closeM (toksOf _ ts) (altM notNone (toksOf _ ts) 33 0 0) = _
  have hlast : (tokAt (toksOf ⟨(reW setS r).toArray⟩ ts) ts.length).kind = 0 := by
    have : tokAt (toksOf ⟨(reW setS r).toArray⟩ ts) ts.length = endTok ⟨(reW setS r).toArray⟩ := tokAt_of (by unfold toksOf; simp)
    rw [this]; rfl
  have hTl : (toksOf ⟨(reW setS r).toArray⟩ ts).length = ts.length + 1 := by unfold toksOf; simp
  have hta : TA (toksOf ⟨(reW setS r).toArray⟩ ts) 0 (reT r) := by
    have := ta_of (l := reT r) (ts := ts) (pre := []) (post := [endTok ⟨(reW setS r).toArray⟩]) (by rw [h3, hbb])
    simpa [toksOf] using this
  generalize toksOf ⟨(reW setS r).toArray⟩ ts = T at *
  have ea : askT r 0 = reT r := by unfold askT; rw [if_neg (by omega)]
  have ed : askD r 0 = reD r := by unfold askD; rw [if_neg (by omega)]; rfl
  have hg := good_re T h r hr 0 (by omega) 0 0 32 40 (by rw [ed]; omega) (by omega) (by omega) (by rw [ea]; exact hta) (by rw [ea]; omega) (by rw [ea, Nat.zero_add, ← hlen]; exact Nx.ends (.fin hlast))
  rw [ea, Nat.zero_add] at hg
  rw [Pq_alt 32 T 40, hg]
  exact closeM_ok _ rfl (by rw [← hlen, hlast]; rfl)
end Go.Proofs.YtfljcfdfgojdoaaGreatDoor.Sh
