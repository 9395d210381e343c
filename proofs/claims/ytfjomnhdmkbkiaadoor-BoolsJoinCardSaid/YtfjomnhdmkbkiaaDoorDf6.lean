/-
  An automaton of one way as one of many: the model, and what its edges and ends are. No program in sight.
-/
import Derived.Test.YtfjomnhdmkbkiaaDoorDf5
namespace Go.Proofs.YtfjomnhdmkbkiaaDoor.Im

/-! an automaton of one way as one of many -/
def byM (row : List Int) (p : List Se) (dst : Nat) : Se := ((row.zip p).filter fun x => decide (x.1 = (dst : Int))).foldl (fun a x => anyS a x.2) Se.none
def edgesOf (s : Nat) (row : List Int) (p : List Se) : List Edge := (List.range' 0 1024).filterMap fun dst => if byM row p dst = Se.none then none else some ⟨s, dst, byM row p dst⟩
def backFrom (d : Dfa) (p : List Se) : Nat → Nat → List Int → List Edge → Except Int (List Int × List Edge)
  | 0, _, ends, es => .ok (ends, es)
  | k + 1, s, ends, es =>
    if 65536 < (es ++ edgesOf s (d.next.getD s []) p).length then .error 2
    else backFrom d p k (s + 1) (if d.fin.getD s false then ends ++ [(s : Int)] else ends) (es ++ edgesOf s (d.next.getD s []) p)
def backM (d : Dfa) : Except Int Nfa :=
  if dfaOk d then
    match setsOf d.cls with
    | none => .error 1
    | some p =>
      match backFrom d p d.next.length 0 [] [] with
      | .error e => .error e
      | .ok (ends, es) => .ok ⟨d.next.length, [0], ends, es⟩
  else .error 1
/-- the parts that a row of classes makes, below b -/
structure SetsAt (cl : List Int) (b : Nat) (ss : List Se) : Prop where
  ok : ∀ s ∈ ss, s.ok
  lt : ∀ x, x < b → 0 ≤ cl.getD x 0 ∧ cl.getD x 0 < ss.length
  has : ∀ i, i < ss.length → ∀ x, x < 256 → hasS (ss.getD i Se.none) x = decide (x < b ∧ cl.getD x 0 = (i : Int))
theorem SetsAt.step {cl : List Int} {b c : Nat} {ss : List Se} (h : SetsAt cl b ss) (hb : b < 256) (hc : cl.getD b 0 = (c : Int)) (hcl : c ≤ ss.length) : SetsAt cl (b + 1) (putIn b c ss) := by
  -- the grown row
  have hg : ∃ g, grow c ss = g ∧ c < g.length ∧ ss.length ≤ g.length ∧ g.length ≤ ss.length + 1 ∧ (∀ s ∈ g, s.ok) ∧ ∀ i, i < g.length → ∀ x, x < 256 → hasS (g.getD i Se.none) x = decide (x < b ∧ cl.getD x 0 = (i : Int)) := by
    refine ⟨_, rfl, ?_⟩
    unfold grow
    split
    · rename_i e
      refine ⟨by simp; omega, by simp, by simp, fun s hs => ?_, fun i hi x hx => ?_⟩
      · rcases List.mem_append.1 hs with hs | hs
        · exact h.ok s hs
        · rw [List.mem_singleton.1 hs]; exact Se.ok_none
      · by_cases hi2 : i < ss.length
        · rw [List.getD_eq_getElem?_getD, List.getElem?_append_left hi2, ← List.getD_eq_getElem?_getD]
          exact h.has i hi2 x hx
        · have hi3 : i = ss.length := by simp at hi; omega
          subst hi3
          rw [List.getD_eq_getElem?_getD, List.getElem?_append_right (Nat.le_refl _), Nat.sub_self]
          show hasS Se.none x = _
          rw [has_none]
          refine (decide_eq_false fun c => ?_).symm
          have := h.lt x c.1
          omega
    · exact ⟨by omega, Nat.le_refl _, by omega, h.ok, h.has⟩
  obtain ⟨g, hge, g1, g2, g2', g3, g4⟩ := hg
  unfold putIn
  rw [hge]
  have hmem : g.getD c Se.none ∈ g := by rw [List.getD_eq_getElem?_getD, List.getElem?_eq_getElem g1]; exact List.getElem_mem _
  refine ⟨fun s hs => ?_, fun x hx => ?_, fun i hi x hx => ?_⟩
  · rcases List.mem_or_eq_of_mem_set hs with hs | rfl
    · exact g3 s hs
    · exact (g3 _ hmem).any (Se.ok_one b)
  · rw [List.length_set]
    by_cases e : x = b
    · subst e; omega
    · have := h.lt x (by omega); omega
  · rw [List.length_set] at hi
    by_cases e : i = c
    · subst e
      rw [List.getD_eq_getElem?_getD, List.getElem?_set_self g1]
      show hasS (anyS _ _) x = _
      rw [has_any (g3 _ hmem) (Se.ok_one b), has_one hb hx, g4 i g1 x hx, ← Bool.decide_or]
      refine decide_eq_decide.2 ⟨?_, ?_⟩
      · rintro (⟨h1, h2⟩ | rfl)
        · exact ⟨by omega, h2⟩
        · exact ⟨by omega, hc⟩
      · rintro ⟨h1, h2⟩
        by_cases e : x = b
        · exact .inr e
        · exact .inl ⟨by omega, h2⟩
    · rw [List.getD_eq_getElem?_getD, List.getElem?_set_ne (fun c => e c.symm), ← List.getD_eq_getElem?_getD, g4 i hi x hx]
      refine decide_eq_decide.2 ⟨fun ⟨h1, h2⟩ => ⟨by omega, h2⟩, fun ⟨h1, h2⟩ => ⟨?_, h2⟩⟩
      rcases Nat.lt_or_ge x b with hx' | hx'
      · exact hx'
      · have : x = b := by omega
        subst this
        omega
theorem setsM_at (cl : List Int) (hl : cl.length = 256) : ∀ (l : List Int) (b : Nat) (ss out : List Se), l = cl.drop b → b + l.length = 256 → SetsAt cl b ss → setsM b l ss = some out → SetsAt cl 256 out
  | [], b, ss, out, _, e, h, ho => by
    unfold setsM at ho
    cases ho
    simp at e
    subst e
    exact h
  | c :: l, b, ss, out, hd, e, h, ho => by
    unfold setsM at ho
    simp only [List.length_cons] at e
    have hb : b < cl.length := by omega
    rw [List.drop_eq_getElem_cons hb] at hd
    obtain ⟨hc, hd'⟩ := List.cons.inj hd
    split at ho
    · cases ho
    · rename_i hn
      have hcd : cl.getD b 0 = c := by rw [List.getD_eq_getElem?_getD, List.getElem?_eq_getElem hb, hc]; rfl
      refine setsM_at cl hl l (b + 1) _ out hd' (by omega) (h.step (by omega) (c := c.toNat) (by omega) (by omega)) ho
theorem setsOf_law {cl : List Int} {p : List Se} (h : setsOf cl = some p) : SetsAt cl 256 p := by
  unfold setsOf at h
  split at h
  · rename_i hl
    exact setsM_at cl hl cl 0 [] p rfl (by omega) ⟨by simp, fun x hx => by omega, fun i hi => by simp at hi⟩ h
  · cases h
theorem byM_ok {p : List Se} (hp : ∀ s ∈ p, s.ok) (row : List Int) (dst : Nat) : (byM row p dst).ok := by
  unfold byM
  have : ∀ (l : List (Int × Se)) (a : Se), a.ok → (∀ x ∈ l, x.2.ok) → (l.foldl (fun a x => anyS a x.2) a).ok := by
    intro l
    induction l with
    | nil => intro a ha _; exact ha
    | cons y l ih => intro a ha hl; exact ih _ (ha.any (hl y (by simp))) (fun x hx => hl x (by simp [hx]))
  exact this _ _ Se.ok_none fun x hx => hp _ (List.of_mem_zip (List.mem_filter.1 hx).1).2
theorem has_fold {l : List (Int × Se)} : ∀ {a : Se}, a.ok → (∀ x ∈ l, x.2.ok) → ∀ b, hasS (l.foldl (fun a x => anyS a x.2) a) b = (hasS a b || l.any fun x => hasS x.2 b) := by
  induction l with
  | nil => intro a _ _ b; simp
  | cons y l ih =>
    intro a ha hl b
    rw [List.foldl_cons, ih (ha.any (hl y (by simp))) (fun x hx => hl x (by simp [hx])) b, has_any ha (hl y (by simp)), List.any_cons, Bool.or_assoc]
theorem has_byM {p : List Se} (hp : ∀ s ∈ p, s.ok) (row : List Int) (dst b : Nat) : hasS (byM row p dst) b = true ↔ ∃ i, ∃ (h1 : i < row.length) (h2 : i < p.length), row[i] = (dst : Int) ∧ hasS p[i] b = true := by
  unfold byM
  rw [has_fold Se.ok_none (fun x hx => hp _ (List.of_mem_zip (List.mem_filter.1 hx).1).2), has_none, Bool.false_or, List.any_eq_true]
  constructor
  · rintro ⟨x, hx, hb⟩
    obtain ⟨h1, h2⟩ := List.mem_filter.1 hx
    obtain ⟨i, hi, rfl⟩ := List.getElem_of_mem h1
    rw [List.length_zip] at hi
    rw [List.getElem_zip] at h2 hb
    exact ⟨i, by omega, by omega, of_decide_eq_true h2, hb⟩
  · rintro ⟨i, h1, h2, h3, h4⟩
    refine ⟨(row[i], p[i]), List.mem_filter.2 ⟨?_, by simp [h3]⟩, h4⟩
    have : (row.zip p)[i]'(by rw [List.length_zip]; omega) = (row[i], p[i]) := List.getElem_zip
    rw [← this]
    exact List.getElem_mem _
theorem mem_edgesOf {s : Nat} {row : List Int} {p : List Se} {e : Edge} : e ∈ edgesOf s row p ↔ ∃ dst : Nat, dst < 1024 ∧ byM row p dst ≠ Se.none ∧ e = ⟨s, dst, byM row p dst⟩ := by
  unfold edgesOf
  rw [List.mem_filterMap]
  constructor
  · rintro ⟨dst, h1, h2⟩
    have h1 := List.mem_range'_1.1 h1
    split at h2
    · cases h2
    · rename_i hn
      cases h2
      exact ⟨dst, by omega, hn, rfl⟩
  · rintro ⟨dst, h1, h2, rfl⟩
    exact ⟨dst, List.mem_range'_1.2 ⟨by omega, by omega⟩, if_neg h2⟩
theorem backFrom_law (d : Dfa) (p : List Se) : ∀ (k s : Nat) (ends : List Int) (es : List Edge) (ends' : List Int) (es' : List Edge), backFrom d p k s ends es = .ok (ends', es') → es.length ≤ 65536 →
    es'.length ≤ 65536 ∧ (∀ e, e ∈ es' ↔ e ∈ es ∨ ∃ t, s ≤ t ∧ t < s + k ∧ e ∈ edgesOf t (d.next.getD t []) p) ∧ (∀ x, x ∈ ends' ↔ x ∈ ends ∨ ∃ t, s ≤ t ∧ t < s + k ∧ d.fin.getD t false = true ∧ x = (t : Int))
  | 0, s, ends, es, ends', es', h, hl => by
    unfold backFrom at h
    cases h
    refine ⟨hl, fun e => ⟨.inl, ?_⟩, fun x => ⟨.inl, ?_⟩⟩
    · rintro (h | ⟨t, h1, h2, _⟩)
      · exact h
      · omega
    · rintro (h | ⟨t, h1, h2, _⟩)
      · exact h
      · omega
  | k + 1, s, ends, es, ends', es', h, hl => by
    unfold backFrom at h
    split at h
    · cases h
    · rename_i hn
      obtain ⟨h1, h2, h3⟩ := backFrom_law d p k (s + 1) _ _ ends' es' h (by omega)
      refine ⟨h1, fun e => ?_, fun x => ?_⟩
      · rw [h2, List.mem_append]
        constructor
        · rintro ((h | h) | ⟨t, a, b, c⟩)
          · exact .inl h
          · exact .inr ⟨s, Nat.le_refl _, by omega, h⟩
          · exact .inr ⟨t, by omega, by omega, c⟩
        · rintro (h | ⟨t, a, b, c⟩)
          · exact .inl (.inl h)
          · by_cases e' : t = s
            · subst e'; exact .inl (.inr c)
            · exact .inr ⟨t, by omega, by omega, c⟩
      · rw [h3]
        have hm : x ∈ (if d.fin.getD s false = true then ends ++ [(s : Int)] else ends) ↔ x ∈ ends ∨ d.fin.getD s false = true ∧ x = (s : Int) := by
          split
          · rename_i hf
            rw [List.mem_append, List.mem_singleton]
            constructor
            · rintro (h | h)
              · exact .inl h
              · exact .inr ⟨hf, h⟩
            · rintro (h | h)
              · exact .inl h
              · exact .inr h.2
          · rename_i hf
            exact ⟨.inl, fun h => h.elim id fun c => absurd c.1 hf⟩
        rw [hm]
        constructor
        · rintro ((h | ⟨h, h'⟩) | ⟨t, a, b, c⟩)
          · exact .inl h
          · exact .inr ⟨s, Nat.le_refl _, by omega, h, h'⟩
          · exact .inr ⟨t, by omega, by omega, c⟩
        · rintro (h | ⟨t, a, b, c, e'⟩)
          · exact .inl (.inl h)
          · by_cases e2 : t = s
            · subst e2; exact .inl (.inr ⟨c, e'⟩)
            · exact .inr ⟨t, by omega, by omega, c, e'⟩
theorem goM_cls {d : Dfa} {p : List Se} (hd : dfaOk d = true) (hp : setsOf d.cls = some p) {s : Nat} (hs : s < d.next.length) (c : B) :
    ∃ i, ∃ (h1 : i < (d.next.getD s []).length) (_ : i < p.length), clsAt d c = (i : Int) ∧ goM d s c = (d.next.getD s [])[i] ∧ ∀ j (h3 : j < p.length), hasS p[j] c.toNat = true ↔ j = i := by
  obtain ⟨m, hm, hl, _, _, _, hc, hr⟩ := dfaOk_parts hd
  have hpm : p.length = m := by
    have := setsOf_parts d.cls
    rw [hp, hm] at this
    exact Option.some.inj this
  have hlaw := setsOf_law hp
  have hcn := c.toNat_lt
  have hlt := hlaw.lt c.toNat (by omega)
  have hrow := hr _ (getD_mem hs [])
  refine ⟨(clsAt d c).toNat, by unfold clsAt; omega, by unfold clsAt; omega, by unfold clsAt; omega, ?_, fun j h3 => ?_⟩
  · unfold goM
    rw [Int.toNat_natCast, List.getD_eq_getElem?_getD, List.getElem?_eq_getElem (by unfold clsAt; omega)]
    rfl
  · have := hlaw.has j h3 c.toNat (by omega)
    rw [List.getD_eq_getElem?_getD, List.getElem?_eq_getElem h3] at this
    have h4 : hasS p[j] c.toNat = decide (c.toNat < 256 ∧ d.cls.getD c.toNat 0 = (j : Int)) := this
    rw [h4, decide_eq_true_eq]
    unfold clsAt
    omega
theorem stepN_back {d : Dfa} {p : List Se} {es : List Edge} (hd : dfaOk d = true) (hp : setsOf d.cls = some p)
    (hes : ∀ e, e ∈ es ↔ ∃ t, t < d.next.length ∧ e ∈ edgesOf t (d.next.getD t []) p) {s : Nat} (hs : s < d.next.length) (c : B) (y : Int) : y ∈ stepN es [(s : Int)] c ↔ y = goM d s c := by
  obtain ⟨_, _, _, _, h1024, _, _, _⟩ := dfaOk_parts hd
  obtain ⟨i, h1, h2, h3, h4, h5⟩ := goM_cls hd hp hs c
  have hin := goM_in hd (s := (s : Int)) (by omega) (by omega) c
  have hok := (setsOf_law hp).ok
  rw [mem_stepN]
  constructor
  · rintro ⟨e, g1, g2, g3, g4⟩
    obtain ⟨t, k1, k2⟩ := (hes e).1 g1
    obtain ⟨dst, k3, k4, rfl⟩ := mem_edgesOf.1 k2
    have hts : t = s := by
      have := List.mem_singleton.1 g2
      exact Int.ofNat.inj this
    subst hts
    obtain ⟨j, a1, a2, a3, a4⟩ := (has_byM hok _ _ _).1 g3
    have hji := (h5 j a2).1 a4
    subst hji
    rw [h4, a3]
    exact g4.symm
  · rintro rfl
    obtain ⟨dst, hto⟩ := Int.eq_ofNat_of_zero_le hin.1
    have hb : hasS (byM (d.next.getD s []) p dst) c.toNat = true := (has_byM hok _ _ _).2 ⟨i, h1, h2, by rw [← h4, hto], (h5 i h2).2 rfl⟩
    refine ⟨⟨s, dst, byM (d.next.getD s []) p dst⟩, (hes _).2 ⟨s, hs, mem_edgesOf.2 ⟨dst, by omega, fun c0 => ?_, rfl⟩⟩, by simp, hb, hto.symm⟩
    rw [c0, has_none] at hb
    cases hb
theorem reach_back {d : Dfa} {p : List Se} {es : List Edge} (hd : dfaOk d = true) (hp : setsOf d.cls = some p)
    (hes : ∀ e, e ∈ es ↔ ∃ t, t < d.next.length ∧ e ∈ edgesOf t (d.next.getD t []) p) : ∀ (w : List B) (s : Nat), s < d.next.length → ∀ y, y ∈ reachN es [(s : Int)] w ↔ y = runFrom d s w
  | [], s, _, y => List.mem_singleton
  | c :: w, s, hs, y => by
    have hin := goM_in hd (s := (s : Int)) (by omega) (by omega) c
    obtain ⟨dst, hto⟩ := Int.eq_ofNat_of_zero_le hin.1
    show y ∈ reachN es (stepN es [(s : Int)] c) w ↔ y = runFrom d (goM d s c) w
    rw [reachN_ext es w (stepN es [(s : Int)] c) [(dst : Int)] (fun x => by rw [stepN_back hd hp hes hs c x, List.mem_singleton, hto]) y, hto]
    exact reach_back hd hp hes w dst (by omega) y
theorem rise_of : ∀ (l : List Int) (n : Int) (q : Option Int), (∀ x ∈ l, 0 ≤ x ∧ x < n) → l.Pairwise (· < ·) → (∀ y, q = some y → ∀ x ∈ l, y < x) → riseM n q l = true
  | [], n, q, _, _, _ => by cases q <;> rfl
  | x :: l, n, q, h1, h2, h3 => by
    have hx := h1 x (by simp)
    have ih := rise_of l n (some x) (fun y hy => h1 y (by simp [hy])) (List.pairwise_cons.1 h2).2 (fun y hy z hz => by cases hy; exact (List.pairwise_cons.1 h2).1 z hz)
    cases q with
    | none => unfold riseM stateOk; simp [hx, ih]
    | some y => unfold riseM stateOk; have := h3 y rfl x (by simp); simp [hx, ih, this]
theorem ends_back (d : Dfa) (p : List Se) : ∀ (k s : Nat) (ends : List Int) (es : List Edge) (ends' : List Int) (es' : List Edge), backFrom d p k s ends es = .ok (ends', es') → ends.Pairwise (· < ·) → (∀ x ∈ ends, 0 ≤ x ∧ x < (s : Int)) →
    ends'.Pairwise (· < ·) ∧ ∀ x ∈ ends', 0 ≤ x ∧ x < ((s + k : Nat) : Int)
  | 0, s, ends, es, ends', es', h, h1, h2 => by
    unfold backFrom at h
    cases h
    exact ⟨h1, h2⟩
  | k + 1, s, ends, es, ends', es', h, h1, h2 => by
    unfold backFrom at h
    split at h
    · cases h
    · have := ends_back d p k (s + 1) _ _ ends' es' h (by
        split
        · refine List.pairwise_append.2 ⟨h1, by simp, fun a ha b hb => ?_⟩
          rw [List.mem_singleton.1 hb]
          exact (h2 a ha).2
        · exact h1) (fun x hx => by
        split at hx
        · rcases List.mem_append.1 hx with hx | hx
          · have := h2 x hx; omega
          · rw [List.mem_singleton.1 hx]; omega
        · have := h2 x hx; omega)
      refine ⟨this.1, fun x hx => ?_⟩
      have := this.2 x hx
      omega
theorem byM_in {row : List Int} {p : List Se} {dst : Nat} (h : byM row p dst ≠ Se.none) : (dst : Int) ∈ row := by
  rcases hf : (row.zip p).filter fun x : Int × Se => decide (x.1 = (dst : Int)) with _ | ⟨x, l⟩
  · unfold byM at h
    rw [hf] at h
    exact absurd rfl h
  · have hx : x ∈ (row.zip p).filter fun x : Int × Se => decide (x.1 = (dst : Int)) := by rw [hf]; simp
    obtain ⟨h1, h2⟩ := List.mem_filter.1 hx
    rw [← of_decide_eq_true h2]
    exact (List.of_mem_zip (a := x.1) (b := x.2) h1).1
/-- what Back makes is right, and takes what the automaton takes -/
theorem back_law {d : Dfa} {n : Nfa} (h : backM d = .ok n) : dfaOk d = true ∧ nfaOk n = true ∧ ∀ w, takesN n w = takesM d w := by
  unfold backM at h
  split at h
  · rename_i hd
    split at h
    · cases h
    · rename_i p hp
      split at h
      · cases h
      · rename_i ends es hb
        cases h
        obtain ⟨m, _, _, hn1, hn2, _, _, hrows⟩ := dfaOk_parts hd
        obtain ⟨k1, k2, k3⟩ := backFrom_law d p _ 0 [] [] ends es hb (by simp)
        obtain ⟨k4, k5⟩ := ends_back d p _ 0 [] [] ends es hb (by simp) (by simp)
        have hes : ∀ e, e ∈ es ↔ ∃ t, t < d.next.length ∧ e ∈ edgesOf t (d.next.getD t []) p := fun e => by
          rw [k2]
          constructor
          · rintro (h | ⟨t, a, b, c⟩)
            · simp at h
            · exact ⟨t, by omega, c⟩
          · rintro ⟨t, a, b⟩
            exact .inr ⟨t, Nat.zero_le _, by omega, b⟩
        have hok : nfaOk ⟨d.next.length, [0], ends, es⟩ = true := by
          unfold nfaOk
          have r1 := rise_of [0] (d.next.length : Int) none (fun x hx => by rw [List.mem_singleton.1 hx]; omega) (by simp) (fun y hy => by cases hy)
          have r2 := rise_of ends (d.next.length : Int) none (fun x hx => by have := k5 x hx; omega) k4 (fun y hy => by cases hy)
          simp only [Bool.and_eq_true, decide_eq_true_eq, List.all_eq_true]
          refine ⟨⟨⟨⟨⟨by omega, by omega⟩, k1⟩, r1⟩, r2⟩, fun e he => ?_⟩
          obtain ⟨t, a, b⟩ := (hes e).1 he
          obtain ⟨dst, c1, c2, rfl⟩ := mem_edgesOf.1 b
          have hin := (hrows _ (getD_mem a [])).2 _ (byM_in c2)
          unfold edgeOk stateOk
          simp only [Bool.and_eq_true, decide_eq_true_eq, Bool.not_eq_true', decide_eq_false_iff_not]
          exact ⟨⟨⟨by omega, by omega⟩, ⟨by omega, by omega⟩⟩, c2⟩
        refine ⟨hd, hok, fun w => ?_⟩
        have hr := reach_back hd hp hes w 0 (by omega)
        have hin := runFrom_in hd w (s := 0) (by omega) (by omega)
        unfold takesN takesM
        rw [if_pos hok, if_pos hd]
        refine Prod.ext ?_ rfl
        show ends.any _ = d.fin.getD (runFrom d 0 w).toNat false
        rw [Bool.eq_iff_iff, List.any_eq_true]
        constructor
        · rintro ⟨x, hx, hx2⟩
          have e1 := (hr x).1 (of_decide_eq_true hx2)
          rcases (k3 x).1 hx with h | ⟨t, a, b, c, e2⟩
          · simp at h
          · have e3 : (runFrom d 0 w) = (t : Int) := e1.symm.trans e2
            rw [e3]
            exact c
        · intro hf
          refine ⟨runFrom d 0 w, (k3 _).2 (.inr ⟨(runFrom d 0 w).toNat, Nat.zero_le _, by omega, hf, by omega⟩), decide_eq_true ((hr _).2 rfl)⟩
  · cases h
end Go.Proofs.YtfjomnhdmkbkiaaDoor.Im
