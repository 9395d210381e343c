/-
  One way instead of many: what is made is right and takes the same. No program in sight.
-/
import Derived.Test.YtfjomnhdmkbkiaaDoorDf2
import Derived.Test.YtfjomnhdmkbkiaaDoorDf4
namespace Go.Proofs.YtfjomnhdmkbkiaaDoor.Im

theorem unlike_acc : ∀ (es : List Edge) (acc : List Se) (s : Se), s ∈ acc → s ∈ unlikeM acc es
  | [], _, _, h => h
  | e :: es, acc, s, h => by
    unfold unlikeM
    apply unlike_acc es
    split
    · exact h
    · exact List.mem_append_left _ h
theorem mem_unlike : ∀ (es : List Edge) (acc : List Se) (e : Edge), e ∈ es → e.st ∈ unlikeM acc es
  | x :: es, acc, e, h => by
    unfold unlikeM
    rcases List.mem_cons.1 h with rfl | h
    · apply unlike_acc
      split
      · assumption
      · simp
    · exact mem_unlike es _ e h
theorem key_has {l : List Se} {a b : Nat} (h : keyM l a = keyM l b) {s : Se} (hs : s ∈ l) : hasS s a = hasS s b := by
  have := List.map_inj_left.1 (show (l.map fun s => if hasS s a then (1 : B) else 0) = l.map fun s => if hasS s b then (1 : B) else 0 from h) s hs
  cases h1 : hasS s a <;> cases h2 : hasS s b <;> simp [h1, h2] at this ⊢
/-- the classes are numbered as they come -/
theorem parts_clsOf {l : List Se} {ks : List (List B)} {p : List Se} {fs : List Nat} (h : PartAt l 256 ks p fs) : ∀ (k b n : Nat), b + k = 256 → n ≤ fs.length → (∀ i (hi : i < fs.length), fs[i] < b ↔ i < n) →
    parts n ((List.range' b k).map fun x => (ks.idxOf (keyM l x) : Int)) = some fs.length
  | 0, b, n, e, hn, hc => by
    have : n = fs.length := by
      rcases Nat.lt_or_ge n fs.length with hl | hl
      · have := (hc n hl).1 (by have := h.lt _ (List.getElem_mem hl); omega)
        omega
      · omega
    subst this
    rfl
  | k + 1, b, n, e, hn, hc => by
    rw [List.range'_succ, List.map_cons]
    obtain ⟨hi, he⟩ := h.idx (h.all b (by omega))
    generalize hcd : ks.idxOf (keyM l b) = c at hi he
    have hle : fs[c] ≤ b := by
      rcases Nat.lt_or_ge b fs[c] with hl | hl
      · exact absurd he.symm (h.least _ (List.getElem_mem hi) b hl)
      · exact hl
    have hcn : c ≤ n := by
      rcases Nat.lt_or_ge n c with hl | hl
      · have h1 := (List.pairwise_iff_getElem.1 h.up) n c (by omega) hi hl
        have := (hc n (by omega)).1 (by omega)
        omega
      · exact hl
    have heq : ∀ i (hi' : i < fs.length), fs[i] = b → i = c := fun i hi' e' => h.nodup hi' hi (by rw [he, e'])
    unfold parts
    rw [if_neg (by omega)]
    by_cases hcn' : c = n
    · subst hcn'
      rw [if_pos rfl]
      have hb : fs[c] = b := by
        have := fun hl => (hc c hi).1 hl
        rcases Nat.lt_or_ge fs[c] b with hl | hl
        · have := this hl; omega
        · omega
      refine parts_clsOf h k (b + 1) (c + 1) (by omega) (by omega) fun i hi' => ⟨fun hlt => ?_, fun hlt => ?_⟩
      · by_cases e1 : fs[i] = b
        · have := heq i hi' e1; omega
        · have := (hc i hi').1 (by omega); omega
      · by_cases e1 : i = c
        · subst e1; omega
        · have := (hc i hi').2 (by omega); omega
    · rw [if_neg (by omega)]
      refine parts_clsOf h k (b + 1) n (by omega) hn fun i hi' => ⟨fun hlt => ?_, fun hlt => ?_⟩
      · by_cases e1 : fs[i] = b
        · have := heq i hi' e1; omega
        · exact (hc i hi').1 (by omega)
      · have := (hc i hi').2 hlt; omega
theorem putM_law {rows : List (List Int)} {l : List Int} {k : Nat} {rows' : List (List Int)} (h : putM rows l = .ok (k, rows')) : (∃ t, rows' = rows ++ t) ∧ rows'[k]? = some (sortU l) ∧ (rows' = rows ∨ rows'.length = rows.length + 1 ∧ k = rows.length) := by
  unfold putM at h
  split at h
  · rename_i hm
    cases h
    have h1 := List.idxOf_lt_length_of_mem hm
    exact ⟨⟨[], by simp⟩, by rw [List.getElem?_eq_getElem h1, List.getElem_idxOf h1], .inl rfl⟩
  · split at h
    · cases h
    · cases h
      exact ⟨⟨_, rfl⟩, by simp, .inr ⟨by simp, rfl⟩⟩
theorem nextM_law (es : List Edge) (row : List Int) : ∀ (p : List Se) (rows : List (List Int)) (l : List Int) (rows' : List (List Int)), nextM es row rows p = .ok (l, rows') → rows.length ≤ 1024 →
    (∃ t, rows' = rows ++ t) ∧ rows'.length ≤ 1024 ∧ l.length = p.length ∧ ∀ i (hi : i < p.length), ∃ k : Nat, l[i]? = some (k : Int) ∧ rows'[k]? = some (sortU (behindM es row p[i]))
  | [], rows, l, rows', h, hr => by
    unfold nextM at h
    cases h
    exact ⟨⟨[], by simp⟩, hr, rfl, fun i hi => by simp at hi⟩
  | s :: p, rows, l, rows', h, hr => by
    unfold nextM at h
    split at h
    · cases h
    · rename_i k r1 hp
      split at h
      · cases h
      · rename_i hk
        split at h
        · cases h
        · rename_i l2 r2 h2
          cases h
          obtain ⟨⟨t1, e1⟩, g2, g3⟩ := putM_law hp
          have hr1 : r1.length ≤ 1024 := by
            rcases g3 with rfl | ⟨g4, g5⟩
            · exact hr
            · omega
          obtain ⟨⟨t2, e2⟩, i2, i3, i4⟩ := nextM_law es row p r1 l2 rows' h2 hr1
          refine ⟨⟨t1 ++ t2, by rw [e2, e1, List.append_assoc]⟩, i2, by simp [i3], fun i hi => ?_⟩
          rcases i with _ | i
          · refine ⟨k, rfl, ?_⟩
            have hkl : k < r1.length := (List.getElem?_eq_some_iff.1 g2).1
            rw [e2, List.getElem?_append_left hkl, g2]
            rfl
          · obtain ⟨k', a1, a2⟩ := i4 i (by simpa using hi)
            exact ⟨k', by simpa using a1, by simpa using a2⟩
theorem nextM_err (es : List Edge) (row : List Int) : ∀ (p : List Se) (rows : List (List Int)) (e : Int), nextM es row rows p = .error e → e = 2
  | [], rows, e, h => by unfold nextM at h; cases h
  | s :: p, rows, e, h => by
    unfold nextM at h
    split at h
    · rename_i e' hp
      cases h
      unfold putM at hp
      split at hp
      · cases hp
      · split at hp
        · cases hp; rfl
        · cases hp
    · split at h
      · cases h; rfl
      · split at h
        · rename_i e2
          cases h
          exact nextM_err es row p _ _ e2
        · cases h
/-- what the loop over the rows has made so far -/
structure OfAt (n : Nfa) (p : List Se) (rows : List (List Int)) (next : List (List Int)) (fin : List Bool) : Prop where
  len : fin.length = next.length
  le : next.length ≤ rows.length
  most : rows.length ≤ 1024
  start : rows[0]? = some (sortU n.starts)
  row : ∀ j (h : j < next.length), next[j].length = p.length ∧ ∀ i (hi : i < p.length), ∃ k : Nat, next[j][i]? = some (k : Int) ∧ rows[k]? = some (sortU (behindM n.edges (rows.getD j []) p[i]))
  fin : ∀ j, j < next.length → fin[j]? = some ((rows.getD j []).any fun x => decide (x ∈ n.ends))
theorem getD_append {α : Type} (l t : List α) (i : Nat) (h : i < l.length) (x : α) : (l ++ t).getD i x = l.getD i x := by
  rw [List.getD_eq_getElem?_getD, List.getElem?_append_left h, List.getD_eq_getElem?_getD]
theorem get_append {α : Type} {l : List α} {k : Nat} {x : α} (h : l[k]? = some x) (t : List α) : (l ++ t)[k]? = some x := by
  rw [List.getElem?_append_left (List.getElem?_eq_some_iff.1 h).1, h]
theorem ofFrom_law (n : Nfa) (p : List Se) : ∀ (f : Nat) (rows next : List (List Int)) (fin : List Bool) (N : List (List Int)) (E : List Bool), OfAt n p rows next fin → ofFrom n p f next.length rows next fin = .ok (N, E) →
    ∃ R, OfAt n p R N E ∧ N.length = R.length
  | 0, rows, next, fin, N, E, _, h => by unfold ofFrom at h; cases h
  | f + 1, rows, next, fin, N, E, hA, h => by
    unfold ofFrom at h
    split at h
    · rename_i hl
      split at h
      · cases h
      · rename_i l rows' hn
        obtain ⟨⟨t, ht⟩, h1, h2, h3⟩ := nextM_law _ _ _ _ _ _ hn hA.most
        subst ht
        refine ofFrom_law n p f (rows ++ t) (next ++ [l]) (fin ++ [(rows.getD next.length []).any fun x => decide (x ∈ n.ends)]) N E ?_ (by rw [List.length_append, List.length_singleton]; exact h)
        refine ⟨by simp [hA.len], by rw [List.length_append, List.length_append, List.length_singleton]; omega, h1, get_append hA.start t, fun j hj => ?_, fun j hj => ?_⟩
        · rw [List.length_append, List.length_singleton] at hj
          by_cases e : j < next.length
          · have e2 : (next ++ [l])[j]'(by simp; omega) = next[j] := List.getElem_append_left e
            rw [e2, getD_append _ _ _ (by omega)]
            obtain ⟨a1, a2⟩ := hA.row j e
            refine ⟨a1, fun i hi => ?_⟩
            obtain ⟨k, b1, b2⟩ := a2 i hi
            exact ⟨k, b1, get_append b2 t⟩
          · have e1 : j = next.length := by omega
            subst e1
            have e2 : (next ++ [l])[next.length]'(by simp) = l := by simp
            rw [e2, getD_append _ _ _ hl]
            exact ⟨h2, h3⟩
        · rw [List.length_append, List.length_singleton] at hj
          by_cases e : j < next.length
          · rw [List.getElem?_append_left (by rw [hA.len]; exact e), getD_append _ _ _ (by omega)]
            exact hA.fin j e
          · have e1 : j = next.length := by omega
            subst e1
            rw [getD_append _ _ _ hl, List.getElem?_append_right (by rw [hA.len]; exact Nat.le_refl _), hA.len, Nat.sub_self]
            rfl
    · rename_i hl
      cases h
      exact ⟨rows, hA, by have := hA.le; omega⟩
theorem ofFrom_err (n : Nfa) (p : List Se) : ∀ (f s : Nat) (rows next : List (List Int)) (fin : List Bool) (e : Int), ofFrom n p f s rows next fin = .error e → e = 2
  | 0, _, _, _, _, e, h => by unfold ofFrom at h; cases h; rfl
  | f + 1, s, rows, next, fin, e, h => by
    unfold ofFrom at h
    split at h
    · split at h
      · rename_i hn
        cases h
        exact nextM_err _ _ _ _ _ hn
      · exact ofFrom_err n p f _ _ _ _ e h
    · cases h
/-- an error: too long, or not right -/
theorem ofM_err {n : Nfa} {e : Int} (h : ofM n = .error e) : e = 2 ∨ nfaOk n = false := by
  unfold ofM at h
  split at h
  · split at h
    · rename_i hp
      cases h
      unfold partsM at hp
      split at hp
      · cases hp; exact .inl rfl
      · cases hp
    · rename_i p hp
      have hl : (unlikeM [] n.edges).length ≤ 1024 := by
        unfold partsM at hp
        split at hp
        · cases hp
        · omega
      obtain ⟨ks, p', fs, g1, g2, g3⟩ := parts_law _ hl
      rw [hp] at g1
      cases g1
      rw [g3] at h
      dsimp only at h
      split at h
      · rename_i ho
        cases h
        exact .inl (ofFrom_err _ _ _ _ _ _ _ _ ho)
      · cases h
  · rename_i hn
    exact .inr (by simpa using hn)
def stepN (es : List Edge) (S : List Int) (c : B) : List Int := (es.filter fun e => decide (e.fr ∈ S) && hasS e.st c.toNat).map Edge.dst
def reachN (es : List Edge) : List Int → List B → List Int
  | S, [] => S
  | S, c :: w => reachN es (stepN es S c) w
/-- what an automaton of many ways takes -/
def takesN (n : Nfa) (w : List B) : Bool × Int := if nfaOk n then (n.ends.any fun s => decide (s ∈ reachN n.edges n.starts w), 0) else (false, 1)
theorem mem_stepN (es : List Edge) (S : List Int) (c : B) (y : Int) : y ∈ stepN es S c ↔ ∃ e ∈ es, e.fr ∈ S ∧ hasS e.st c.toNat = true ∧ e.dst = y := by
  unfold stepN
  rw [List.mem_map]
  constructor
  · rintro ⟨e, he, h⟩
    obtain ⟨h1, h2⟩ := List.mem_filter.1 he
    simp only [Bool.and_eq_true, decide_eq_true_eq] at h2
    exact ⟨e, h1, h2.1, h2.2, h⟩
  · rintro ⟨e, h1, h2, h3, h4⟩
    exact ⟨e, List.mem_filter.2 ⟨h1, by simp [h2, h3]⟩, h4⟩
theorem mem_behindM (es : List Edge) (row : List Int) (s : Se) (b : Nat) (hb : firstS s = some b) (y : Int) : y ∈ behindM es row s ↔ ∃ e ∈ es, e.fr ∈ row ∧ hasS e.st b = true ∧ e.dst = y := by
  unfold behindM
  rw [hb]
  simp only [Option.getD_some, List.mem_flatMap, List.mem_map, List.mem_filter, Bool.and_eq_true, decide_eq_true_eq]
  constructor
  · rintro ⟨x, hx, e, ⟨h1, h2, h3⟩, h4⟩
    exact ⟨e, h1, h2 ▸ hx, h3, h4⟩
  · rintro ⟨e, h1, h2, h3, h4⟩
    exact ⟨e.fr, h2, e, ⟨h1, rfl, h3⟩, h4⟩
theorem reachN_ext (es : List Edge) : ∀ (w : List B) (S T : List Int), (∀ x, x ∈ S ↔ x ∈ T) → ∀ x, x ∈ reachN es S w ↔ x ∈ reachN es T w
  | [], _, _, h => h
  | c :: w, S, T, h => reachN_ext es w _ _ fun x => by
    rw [mem_stepN, mem_stepN]
    constructor
    · rintro ⟨e, h1, h2, h3⟩; exact ⟨e, h1, (h _).1 h2, h3⟩
    · rintro ⟨e, h1, h2, h3⟩; exact ⟨e, h1, (h _).2 h2, h3⟩
theorem getD_some {α : Type} {l : List α} {i : Nat} {x : α} (h : l[i]? = some x) (d : α) : l.getD i d = x := by
  rw [List.getD_eq_getElem?_getD, h]; rfl
theorem PartAt.first {l : List Se} {ks : List (List B)} {p : List Se} {fs : List Nat} (h : PartAt l 256 ks p fs) {i : Nat} (hi : i < fs.length) (hip : i < p.length) : firstS p[i] = some fs[i] := by
  have hD : p.getD i Se.none = p[i] := by rw [List.getD_eq_getElem?_getD, List.getElem?_eq_getElem hip]; rfl
  have hhas := h.has i hi
  rw [hD] at hhas
  have hf := h.lt _ (List.getElem_mem hi)
  refine firstFrom_at _ _ ?_ 256 0 (Nat.zero_le _) (by omega) fun x _ hx => ?_
  · rw [hhas _ hf]; simp [hf]
  · rw [hhas _ (by omega)]
    exact decide_eq_false fun c => h.least _ (List.getElem_mem hi) x hx c.2
/-- where the made automaton goes: to the row of all that is reached -/
theorem go_law {n : Nfa} {p : List Se} {ks : List (List B)} {fs : List Nat} {R next : List (List Int)} {fin : List Bool} (hP : PartAt (unlikeM [] n.edges) 256 ks p fs) (hA : OfAt n p R next fin) (hN : next.length = R.length) :
    ∀ (w : List B) (j : Nat) (S : List Int), j < R.length → (∀ x, x ∈ R.getD j [] ↔ x ∈ S) →
      ∃ k : Nat, k < R.length ∧ runFrom ⟨clsOf (unlikeM [] n.edges) ks, next, fin⟩ j w = k ∧ ∀ x, x ∈ R.getD k [] ↔ x ∈ reachN n.edges S w
  | [], j, S, hj, hS => ⟨j, hj, rfl, hS⟩
  | c :: w, j, S, hj, hS => by
    have hc := c.toNat_lt
    obtain ⟨hi, he⟩ := hP.idx (hP.all c.toNat (by omega))
    have hcl : clsAt ⟨clsOf (unlikeM [] n.edges) ks, next, fin⟩ c = (ks.idxOf (keyM (unlikeM [] n.edges) c.toNat) : Int) := by
      unfold clsAt
      refine getD_some ?_ 0
      show (clsOf _ ks)[c.toNat]? = _
      unfold clsOf
      rw [List.getElem?_map, List.getElem?_range' (by omega)]
      simp
    generalize hcd : ks.idxOf (keyM (unlikeM [] n.edges) c.toNat) = i at hi he hcl
    have hip : i < p.length := by rw [hP.len]; exact hi
    obtain ⟨h1, h2⟩ := hA.row j (by omega)
    obtain ⟨k, h3, h4⟩ := h2 i hip
    have hgo : goM ⟨clsOf (unlikeM [] n.edges) ks, next, fin⟩ j c = (k : Int) := by
      unfold goM
      rw [hcl]
      have e1 : (next.getD (j : Int).toNat []) = next[j]'(by omega) := getD_some (by simp) []
      show (next.getD (j : Int).toNat []).getD (i : Int).toNat 0 = _
      rw [e1]
      exact getD_some (by simpa using h3) 0
    have hkl : k < R.length := (List.getElem?_eq_some_iff.1 h4).1
    have hrow : ∀ x, x ∈ R.getD k [] ↔ x ∈ stepN n.edges S c := by
      intro x
      rw [getD_some h4 [], mem_sortU, mem_behindM _ _ _ _ (hP.first hi hip), mem_stepN]
      constructor
      · rintro ⟨e, g1, g2, g3, g4⟩
        exact ⟨e, g1, (hS _).1 g2, by rw [← key_has he (mem_unlike _ _ e g1)]; exact g3, g4⟩
      · rintro ⟨e, g1, g2, g3, g4⟩
        exact ⟨e, g1, (hS _).2 g2, by rw [key_has he (mem_unlike _ _ e g1)]; exact g3, g4⟩
    obtain ⟨k', i1, i2, i3⟩ := go_law hP hA hN w k (stepN n.edges S c) hkl hrow
    refine ⟨k', i1, ?_, i3⟩
    unfold runFrom
    rw [hgo]
    exact i2
/-- one way instead of many: it is right, and takes the same -/
theorem ofM_law {n : Nfa} {d : Dfa} (h : ofM n = .ok d) : nfaOk n = true ∧ dfaOk d = true ∧ ∀ w, takesM d w = takesN n w := by
  unfold ofM at h
  split at h
  · rename_i hn
    split at h
    · cases h
    · rename_i p hp
      have hl : (unlikeM [] n.edges).length ≤ 1024 := by
        unfold partsM at hp
        split at hp
        · cases hp
        · omega
      obtain ⟨ks, p', fs, g1, hP, g3⟩ := parts_law _ hl
      rw [hp] at g1
      cases g1
      rw [g3] at h
      dsimp only at h
      split at h
      · cases h
      · rename_i next fin ho
        cases h
        have hS : OfAt n p [sortU n.starts] [] [] := ⟨rfl, Nat.zero_le _, by simp, rfl, fun j h => by simp at h, fun j h => by simp at h⟩
        obtain ⟨R, hA, hN⟩ := ofFrom_law n p 1026 [sortU n.starts] [] [] next fin hS ho
        have hR0 : 0 < R.length := (List.getElem?_eq_some_iff.1 hA.start).1
        have hok : dfaOk ⟨clsOf (unlikeM [] n.edges) ks, next, fin⟩ = true := by
          have hpo : partsOf (clsOf (unlikeM [] n.edges) ks) = some p.length := by
            unfold partsOf
            rw [if_pos (by unfold clsOf; simp)]
            unfold clsOf
            rw [parts_clsOf hP 256 0 0 rfl (Nat.zero_le _) (fun i hi => by omega), hP.len]
          unfold dfaOk
          rw [hpo]
          simp only [Bool.and_eq_true, decide_eq_true_eq, List.all_eq_true]
          refine ⟨⟨⟨by omega, by have := hA.most; omega⟩, hA.len⟩, fun row hr => ?_⟩
          obtain ⟨j, hj, rfl⟩ := List.getElem_of_mem hr
          obtain ⟨h1, h2⟩ := hA.row j hj
          unfold rowOk
          simp only [Bool.and_eq_true, decide_eq_true_eq, List.all_eq_true]
          refine ⟨h1, fun s hs => ?_⟩
          obtain ⟨i, hi, rfl⟩ := List.getElem_of_mem hs
          obtain ⟨k, h3, h4⟩ := h2 i (by omega)
          rw [List.getElem?_eq_getElem hi] at h3
          have hkl : k < R.length := (List.getElem?_eq_some_iff.1 h4).1
          have h5 : next[j][i] = (k : Int) := Option.some.inj h3
          omega
        refine ⟨hn, hok, fun w => ?_⟩
        obtain ⟨k, h1, h2, h3⟩ := go_law hP hA hN w 0 n.starts hR0 (fun x => by rw [getD_some hA.start [], mem_sortU])
        unfold takesM takesN
        rw [if_pos hok, if_pos hn]
        refine Prod.ext ?_ rfl
        have h2' : runFrom ⟨clsOf (unlikeM [] n.edges) ks, next, fin⟩ 0 w = (k : Int) := h2
        show fin.getD (runFrom _ 0 w).toNat false = _
        rw [h2', Int.toNat_natCast, getD_some (hA.fin k (by omega)) false]
        rw [Bool.eq_iff_iff, List.any_eq_true, List.any_eq_true]
        constructor
        · rintro ⟨x, hx, hx2⟩
          exact ⟨x, of_decide_eq_true hx2, decide_eq_true ((h3 x).1 hx)⟩
        · rintro ⟨x, hx, hx2⟩
          exact ⟨x, (h3 x).2 (of_decide_eq_true hx2), decide_eq_true hx⟩
  · cases h
end Go.Proofs.YtfjomnhdmkbkiaaDoor.Im
