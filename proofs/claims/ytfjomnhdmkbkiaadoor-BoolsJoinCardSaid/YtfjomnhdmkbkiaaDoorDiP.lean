/-
  Two automatons joined: plain laws, slices.Concat, bools.shared, pairs as keys, what stands in memory between pairs' rounds.
-/
import Derived.Test.YtfjomnhdmkbkiaaDoorDf6
import Derived.Test.YtfjomnhdmkbkiaaDoorDfZ
import Derived.Test.YtfjomnhdmkbkiaaDoorDhQ
import Derived.Lib.AppendZeros
import Derived.OwnWalk
import Derived.Test.YtfjomnhdmkbkiaaDoorDhR
namespace Go.Proofs.YtfjomnhdmkbkiaaDoor.Im

theorem sub_len' {α : Type} [DecidableEq α] : ∀ (l m : List α), l.Nodup → (∀ x ∈ l, x ∈ m) → l.length ≤ m.length
  | [], _, _, _ => Nat.zero_le _
  | x :: l, m, h, hs => by
    obtain ⟨h1, h2⟩ := List.nodup_cons.1 h
    have hx := hs x (by simp)
    have ih := sub_len' l (m.erase x) h2 fun y hy => (List.mem_erase_of_ne (fun e => h1 (by rw [← e]; exact hy))).2 (hs y (by simp [hy]))
    rw [List.length_erase_of_mem hx] at ih
    have := List.length_pos_of_mem hx
    simp; omega
theorem nodup_snoc {α : Type} {l : List α} {x : α} (h : l.Nodup) (hx : x ∉ l) : (l ++ [x]).Nodup := by
  rw [List.nodup_append]
  exact ⟨h, by simp, fun a ha b hb e => by rw [List.mem_singleton.1 hb] at e; subst e; exact hx ha⟩
section
variable {α : Type} [DecidableEq α]
/-- a row's numbers, by the bytes; new ones come behind -/
def nextW (tw : Nat → α) : List α → List Int → List Nat → Except Int (List Int × List α)
  | rows, acc, [] => .ok (acc, rows)
  | rows, acc, b :: bs =>
    if tw b ∈ rows then nextW tw rows (acc ++ [(rows.idxOf (tw b) : Int)]) bs
    else if 1024 ≤ rows.length then .error 2
    else nextW tw (rows ++ [tw b]) (acc ++ [(rows.length : Int)]) bs
def fromW (tw : α → Nat → α) (ends : α → Bool) (bs : List Nat) : Nat → Nat → List α → List (List Int) → List Bool → Except Int (List (List Int) × List Bool)
  | 0, _, _, _, _ => .error 2
  | f + 1, s, rows, next, fin =>
    match rows[s]? with
    | none => .ok (next, fin)
    | some r =>
      match nextW (tw r) rows [] bs with
      | .error e => .error e
      | .ok (l, rows') => fromW tw ends bs f (s + 1) rows' (next ++ [l]) (fin ++ [ends r])
theorem nextW_cons {tw : Nat → α} {rows : List α} {acc : List Int} {fs : List Nat} {k : Nat} (h : k < fs.length) :
    nextW tw rows acc (fs.drop k) = if tw fs[k] ∈ rows then nextW tw rows (acc ++ [(rows.idxOf (tw fs[k]) : Int)]) (fs.drop (k + 1))
      else if 1024 ≤ rows.length then .error 2 else nextW tw (rows ++ [tw fs[k]]) (acc ++ [(rows.length : Int)]) (fs.drop (k + 1)) := by
  rw [List.drop_eq_getElem_cons h, nextW]
theorem idx_lt {l : List α} {x : α} (h : x ∈ l) : l.idxOf x < l.length := List.idxOf_lt_length_of_mem h
theorem nextW_law (tw : Nat → α) (P : α → Prop) : ∀ (bs : List Nat) (rows : List α) (acc l : List Int) (rows' : List α), nextW tw rows acc bs = .ok (l, rows') → rows.length ≤ 1024 → rows.Nodup → (∀ r ∈ rows, P r) → (∀ b ∈ bs, P (tw b)) →
    (∃ t, rows' = rows ++ t) ∧ rows'.length ≤ 1024 ∧ rows'.Nodup ∧ (∀ r ∈ rows', P r) ∧ ∃ l2, l = acc ++ l2 ∧ l2.length = bs.length ∧ ∀ i (hi : i < bs.length), ∃ k : Nat, l2[i]? = some (k : Int) ∧ rows'[k]? = some (tw bs[i])
  | [], rows, acc, l, rows', h, hm, hn, hp, _ => by
    unfold nextW at h
    cases h
    exact ⟨⟨[], by simp⟩, hm, hn, hp, [], by simp, rfl, fun i hi => by simp at hi⟩
  | b :: bs, rows, acc, l, rows', h, hm, hn, hp, hb => by
    have hb' : ∀ c ∈ bs, P (tw c) := fun c hc => hb c (List.mem_cons_of_mem _ hc)
    unfold nextW at h
    split at h
    · rename_i hin
      obtain ⟨⟨t, h1⟩, h2, h3, h4, l2, h5, h6, h7⟩ := nextW_law tw P bs _ _ _ _ h hm hn hp hb'
      refine ⟨⟨t, h1⟩, h2, h3, h4, (rows.idxOf (tw b) : Int) :: l2, by rw [h5]; simp, by simp [h6], fun i hi => ?_⟩
      rcases i with _ | i
      · refine ⟨rows.idxOf (tw b), rfl, ?_⟩
        have hl := List.idxOf_lt_length_of_mem hin
        rw [h1, List.getElem?_append_left hl, List.getElem?_eq_getElem hl, List.getElem_idxOf]
        rfl
      · obtain ⟨k, a1, a2⟩ := h7 i (by simpa using hi)
        exact ⟨k, by simpa using a1, by simpa using a2⟩
    · rename_i hin
      split at h
      · cases h
      · rename_i hbig
        obtain ⟨⟨t, h1⟩, h2, h3, h4, l2, h5, h6, h7⟩ := nextW_law tw P bs _ _ _ _ h (by simp; omega) (nodup_snoc hn hin) (fun r hr => by
          rcases List.mem_append.1 hr with hr | hr
          · exact hp r hr
          · rw [List.mem_singleton.1 hr]; exact hb b List.mem_cons_self) hb'
        refine ⟨⟨[tw b] ++ t, by rw [h1, List.append_assoc]⟩, h2, h3, h4, (rows.length : Int) :: l2, by rw [h5]; simp, by simp [h6], fun i hi => ?_⟩
        rcases i with _ | i
        · refine ⟨rows.length, rfl, ?_⟩
          rw [h1, List.append_assoc, List.getElem?_append_right (Nat.le_refl _), Nat.sub_self]
          rfl
        · obtain ⟨k, a1, a2⟩ := h7 i (by simpa using hi)
          exact ⟨k, by simpa using a1, by simpa using a2⟩
theorem nextW_err (tw : Nat → α) (P : α → Prop) : ∀ (bs : List Nat) (rows : List α) (acc : List Int) (e : Int), nextW tw rows acc bs = .error e → rows.Nodup → (∀ r ∈ rows, P r) → (∀ b ∈ bs, P (tw b)) →
    e = 2 ∧ ∃ rows' : List α, 1024 < rows'.length ∧ rows'.Nodup ∧ ∀ r ∈ rows', P r
  | [], rows, acc, e, h, _, _, _ => by unfold nextW at h; cases h
  | b :: bs, rows, acc, e, h, hn, hp, hb => by
    have hb' : ∀ c ∈ bs, P (tw c) := fun c hc => hb c (List.mem_cons_of_mem _ hc)
    unfold nextW at h
    split at h
    · exact nextW_err tw P bs _ _ _ h hn hp hb'
    · rename_i hin
      have hp' : ∀ r ∈ rows ++ [tw b], P r := fun r hr => by
        rcases List.mem_append.1 hr with hr | hr
        · exact hp r hr
        · rw [List.mem_singleton.1 hr]; exact hb b List.mem_cons_self
      split at h
      · rename_i hbig
        cases h
        exact ⟨rfl, rows ++ [tw b], by simp; omega, nodup_snoc hn hin, hp'⟩
      · exact nextW_err tw P bs _ _ _ h (nodup_snoc hn hin) hp' hb'
/-- what the loop over the rows has made so far -/
structure WAt (tw : α → Nat → α) (ends : α → Bool) (bs : List Nat) (st : α) (P : α → Prop) (rows : List α) (next : List (List Int)) (fin : List Bool) : Prop where
  len : fin.length = next.length
  le : next.length ≤ rows.length
  most : rows.length ≤ 1024
  nodup : rows.Nodup
  all : ∀ r ∈ rows, P r
  start : rows[0]? = some st
  row : ∀ j (h : j < next.length) r, rows[j]? = some r → next[j].length = bs.length ∧ ∀ i (hi : i < bs.length), ∃ k : Nat, next[j][i]? = some (k : Int) ∧ rows[k]? = some (tw r bs[i])
  fin : ∀ j r, j < next.length → rows[j]? = some r → fin[j]? = some (ends r)
omit [DecidableEq α] in
theorem WAt.begin {tw : α → Nat → α} {ends : α → Bool} {bs : List Nat} {st : α} {P : α → Prop} (h : P st) : WAt tw ends bs st P [st] [] [] :=
  ⟨rfl, Nat.zero_le _, by simp, by simp, fun r hr => by rw [List.mem_singleton.1 hr]; exact h, rfl, fun j h => by simp at h, fun j r h => by simp at h⟩
theorem WAt.step {tw : α → Nat → α} {ends : α → Bool} {bs : List Nat} {st : α} {P : α → Prop} {rows rows' : List α} {next : List (List Int)} {fin : List Bool} {l : List Int} {r : α} (h : WAt tw ends bs st P rows next fin) (hto : ∀ r, P r → ∀ b ∈ bs, P (tw r b)) (hr : rows[next.length]? = some r) (hx : nextW (tw r) rows [] bs = .ok (l, rows')) :
    WAt tw ends bs st P rows' (next ++ [l]) (fin ++ [ends r]) := by
  obtain ⟨hl, hre⟩ := List.getElem?_eq_some_iff.1 hr
  obtain ⟨⟨t, ht⟩, h1, h2, h3, l2, h4, h5, h6⟩ := nextW_law (tw r) P bs _ _ _ _ hx h.most h.nodup h.all (hto r (hre ▸ h.all _ (List.getElem_mem hl)))
  rw [List.nil_append] at h4
  subst h4 ht
  have old : ∀ {j : Nat} {q : α}, j < rows.length → (rows ++ t)[j]? = some q → rows[j]? = some q := fun hj hq => by rwa [List.getElem?_append_left hj] at hq
  refine ⟨by simp [h.len], by rw [List.length_append, List.length_append, List.length_singleton]; omega, h1, h2, h3, by rw [List.getElem?_append_left (by omega)]; exact h.start, fun j hj q hq => ?_, fun j q hj hq => ?_⟩
  · rw [List.length_append, List.length_singleton] at hj
    by_cases e : j < next.length
    · have e2 : (next ++ [l])[j]'(by simp; omega) = next[j] := List.getElem_append_left e
      rw [e2]
      obtain ⟨a1, a2⟩ := h.row j e q (old (by have := h.le; omega) hq)
      refine ⟨a1, fun i hi => ?_⟩
      obtain ⟨k, b1, b2⟩ := a2 i hi
      exact ⟨k, b1, by rw [List.getElem?_append_left (List.getElem?_eq_some_iff.1 b2).1]; exact b2⟩
    · have e1 : j = next.length := by omega
      subst e1
      have e2 : (next ++ [l])[next.length]'(by simp) = l := by simp
      rw [e2]
      have hq' := old hl hq
      rw [hr] at hq'
      cases hq'
      exact ⟨h5, h6⟩
  · rw [List.length_append, List.length_singleton] at hj
    by_cases e : j < next.length
    · rw [List.getElem?_append_left (by rw [h.len]; exact e)]
      exact h.fin j q e (old (by have := h.le; omega) hq)
    · have e1 : j = next.length := by omega
      subst e1
      have hq' := old hl hq
      rw [hr] at hq'
      cases hq'
      rw [List.getElem?_append_right (by rw [h.len]; exact Nat.le_refl _), h.len, Nat.sub_self]
      rfl
theorem fromW_law (tw : α → Nat → α) (ends : α → Bool) (bs : List Nat) (st : α) (P : α → Prop) (hto : ∀ r, P r → ∀ b ∈ bs, P (tw r b)) : ∀ (f : Nat) (rows : List α) (next : List (List Int)) (fin : List Bool) (N : List (List Int)) (E : List Bool), WAt tw ends bs st P rows next fin → fromW tw ends bs f next.length rows next fin = .ok (N, E) →
    ∃ R, WAt tw ends bs st P R N E ∧ N.length = R.length
  | 0, rows, next, fin, N, E, _, h => by unfold fromW at h; cases h
  | f + 1, rows, next, fin, N, E, hA, h => by
    unfold fromW at h
    split at h
    · rename_i hr
      cases h
      exact ⟨rows, hA, by have := hA.le; have := List.getElem?_eq_none_iff.1 hr; omega⟩
    · rename_i r hr
      split at h
      · cases h
      · rename_i l rows' hx
        exact fromW_law tw ends bs st P hto f rows' (next ++ [l]) (fin ++ [ends r]) N E (hA.step hto hr hx) (by rw [List.length_append, List.length_singleton]; exact h)
theorem fromW_err (tw : α → Nat → α) (ends : α → Bool) (bs : List Nat) (st : α) (P : α → Prop) (hto : ∀ r, P r → ∀ b ∈ bs, P (tw r b)) : ∀ (f : Nat) (rows : List α) (next : List (List Int)) (fin : List Bool) (e : Int), WAt tw ends bs st P rows next fin → 1026 ≤ f + next.length → fromW tw ends bs f next.length rows next fin = .error e →
    e = 2 ∧ ∃ rows' : List α, 1024 < rows'.length ∧ rows'.Nodup ∧ ∀ r ∈ rows', P r
  | 0, rows, next, fin, e, hA, hf, h => by
    have h1 := hA.le
    have h2 := hA.most
    omega
  | f + 1, rows, next, fin, e, hA, hf, h => by
    unfold fromW at h
    split at h
    · cases h
    · rename_i r hr
      split at h
      · rename_i e' hx
        cases h
        obtain ⟨hl, hre⟩ := List.getElem?_eq_some_iff.1 hr
        exact nextW_err (tw r) P bs _ _ _ hx hA.nodup hA.all (hto r (hre ▸ hA.all _ (List.getElem_mem hl)))
      · rename_i l rows' hx
        exact fromW_err tw ends bs st P hto f rows' (next ++ [l]) (fin ++ [ends r]) e (hA.step hto hr hx) (by rw [List.length_append, List.length_singleton]; omega) (by rw [List.length_append, List.length_singleton]; exact h)
/-- the marks have no part in where it goes -/
theorem fromW_ends (tw : α → Nat → α) (e1 e2 : α → Bool) (bs : List Nat) : ∀ (f s : Nat) (rows : List α) (next : List (List Int)) (fin fin' : List Bool),
    (∃ N E E', fromW tw e1 bs f s rows next fin = .ok (N, E) ∧ fromW tw e2 bs f s rows next fin' = .ok (N, E')) ∨ ∃ e, fromW tw e1 bs f s rows next fin = .error e ∧ fromW tw e2 bs f s rows next fin' = .error e
  | 0, s, rows, next, fin, fin' => .inr ⟨2, rfl, rfl⟩
  | f + 1, s, rows, next, fin, fin' => by
    unfold fromW
    cases rows[s]? with
    | none => exact .inl ⟨_, _, _, rfl, rfl⟩
    | some r =>
      dsimp only
      cases nextW (tw r) rows [] bs with
      | error e => exact .inr ⟨e, rfl, rfl⟩
      | ok y =>
        obtain ⟨l, rows'⟩ := y
        exact fromW_ends tw e1 e2 bs f (s + 1) rows' (next ++ [l]) _ _
end
/-! pairs of states -/
def stepD (d : Dfa) (s : Int) (b : Nat) : Int := (d.next.getD s.toNat []).getD (d.cls.getD b 0).toNat 0
theorem goM_step (d : Dfa) (s : Int) (c : B) : goM d s c = stepD d s c.toNat := rfl
def toP (a b : Dfa) (r : Int × Int) (x : Nat) : Int × Int := (stepD a r.1 x, stepD b r.2 x)
def endP (f : Bool → Bool → Bool) (a b : Dfa) (r : Int × Int) : Bool := f (a.fin.getD r.1.toNat false) (b.fin.getD r.2.toNat false)
def setsD (d : Dfa) : List Se := (setsOf d.cls).getD []
/-- two automatons, joined -/
def joinM (f : Bool → Bool → Bool) (a b : Dfa) : Except Int Dfa :=
  if dfaOk a ∧ dfaOk b then
    match partsM (setsD a ++ setsD b) with
    | .error e => .error e
    | .ok p =>
      match classM p with
      | none => .error 1
      | some cl =>
        match fromW (toP a b) (endP f a b) (p.map fun s => (firstS s).getD 0) 1026 0 [(0, 0)] [] [] with
        | .error e => .error e
        | .ok (next, fin) => .ok ⟨cl, next, fin⟩
  else .error 1
def notM (a : Dfa) : Except Int Dfa := if dfaOk a then .ok ⟨a.cls, a.next, a.fin.map (!·)⟩ else .error 1
theorem parts_most : ∀ (l : List Int) (n m : Nat), parts n l = some m → m ≤ n + l.length
  | [], n, m, h => by unfold parts at h; cases h; simp
  | c :: l, n, m, h => by
    unfold parts at h
    split at h
    · cases h
    · split at h
      · have := parts_most l (n + 1) m h
        simp; omega
      · have := parts_most l n m h
        simp; omega
theorem parts_few {l : List Int} {m : Nat} (h : partsOf l = some m) : m ≤ 256 := by
  unfold partsOf at h
  split at h
  · rename_i hl
    have := parts_most l 0 m h
    omega
  · cases h
theorem sets_some {d : Dfa} (h : dfaOk d = true) : setsOf d.cls = some (setsD d) ∧ (setsD d).length ≤ 256 ∧ ∀ s ∈ setsD d, s.ok := by
  rcases hx : setsOf d.cls with _ | p
  · rw [dfaOk_none hx] at h; cases h
  · have e : setsD d = p := by unfold setsD; rw [hx]; rfl
    have hl := setsOf_law hx
    rw [e]
    refine ⟨rfl, ?_, hl.ok⟩
    obtain ⟨m, h1, h2, _⟩ := dfaOk_parts h
    have h3 : p.length = m := by
      have := setsOf_parts d.cls
      rw [hx, h1] at this
      exact Option.some.inj this
    rw [h3]
    exact parts_few h1
theorem cls_same {d : Dfa} (hd : dfaOk d = true) {x y : Nat} (hx : x < 256) (hy : y < 256) (h : ∀ s ∈ setsD d, hasS s x = hasS s y) : d.cls.getD x 0 = d.cls.getD y 0 := by
  obtain ⟨h1, _, _⟩ := sets_some hd
  have hl := setsOf_law h1
  obtain ⟨h2, h3⟩ := hl.lt x hx
  have hi : (d.cls.getD x 0).toNat < (setsD d).length := by omega
  have e1 := hl.has _ hi x hx
  have e2 := hl.has _ hi y hy
  rw [h _ (getD_mem hi _), e2] at e1
  have e3 := of_decide_eq_true (e1.trans (decide_eq_true ⟨hx, by omega⟩))
  omega
theorem step_same {d : Dfa} (hd : dfaOk d = true) {x y : Nat} (hx : x < 256) (hy : y < 256) (h : ∀ s ∈ setsD d, hasS s x = hasS s y) (s : Int) : stepD d s x = stepD d s y := by
  unfold stepD
  rw [cls_same hd hx hy h]
theorem step_in {d : Dfa} (h : dfaOk d = true) {s : Int} (h0 : 0 ≤ s) (h1 : s < d.next.length) {b : Nat} (hb : b < 256) : 0 ≤ stepD d s b ∧ stepD d s b < d.next.length := by
  have := goM_in h h0 h1 (UInt8.ofNat b)
  rw [goM_step] at this
  have e : (UInt8.ofNat b).toNat = b := by
    rw [UInt8.toNat_ofNat']
    exact Nat.mod_eq_of_lt hb
  rw [e] at this
  exact this
/-- where the joined automaton goes: to the pair of where both go -/
theorem join_go {a b : Dfa} {f : Bool → Bool → Bool} {P : Int × Int → Prop} {p : List Se} {ks : List (List B)} {fs : List Nat} {R : List (Int × Int)} {next : List (List Int)} {fin : List Bool} (ha : dfaOk a = true) (hb : dfaOk b = true) (hP : PartAt (setsD a ++ setsD b) 256 ks p fs) (hA : WAt (toP a b) (endP f a b) fs (0, 0) P R next fin) (hN : next.length = R.length) :
    ∀ (w : List B) (j : Nat) (x y : Int), R[j]? = some (x, y) →
      ∃ k : Nat, k < R.length ∧ runFrom ⟨clsOf (setsD a ++ setsD b) ks, next, fin⟩ j w = k ∧ R[k]? = some (runFrom a x w, runFrom b y w)
  | [], j, x, y, hj => ⟨j, (List.getElem?_eq_some_iff.1 hj).1, rfl, hj⟩
  | c :: w, j, x, y, hj => by
    have hc := c.toNat_lt
    have hjl := (List.getElem?_eq_some_iff.1 hj).1
    obtain ⟨hi, he⟩ := hP.idx (hP.all c.toNat (by omega))
    have hcl : clsAt ⟨clsOf (setsD a ++ setsD b) ks, next, fin⟩ c = (ks.idxOf (keyM (setsD a ++ setsD b) c.toNat) : Int) := by
      unfold clsAt
      refine getD_some ?_ 0
      show (clsOf _ ks)[c.toNat]? = _
      unfold clsOf
      rw [List.getElem?_map, List.getElem?_range' (by omega)]
      simp
    generalize hcd : ks.idxOf (keyM (setsD a ++ setsD b) c.toNat) = i at hi he hcl
    have hf := hP.lt _ (List.getElem_mem hi)
    obtain ⟨h1, h2⟩ := hA.row j (by omega) _ hj
    obtain ⟨k, h3, h4⟩ := h2 i hi
    have hgo : goM ⟨clsOf (setsD a ++ setsD b) ks, next, fin⟩ j c = (k : Int) := by
      unfold goM
      rw [hcl]
      have e1 : (next.getD (j : Int).toNat []) = next[j]'(by omega) := getD_some (by simp) []
      show (next.getD (j : Int).toNat []).getD (i : Int).toNat 0 = _
      rw [e1]
      exact getD_some (by simpa using h3) 0
    have e2 : toP a b (x, y) fs[i] = (goM a x c, goM b y c) := by
      unfold toP
      rw [goM_step, goM_step, step_same ha hf hc (fun s hs => key_has he (List.mem_append_left _ hs)), step_same hb hf hc (fun s hs => key_has he (List.mem_append_right _ hs))]
    rw [e2] at h4
    obtain ⟨k', i1, i2, i3⟩ := join_go ha hb hP hA hN w k _ _ h4
    refine ⟨k', i1, ?_, i3⟩
    unfold runFrom
    rw [hgo]
    exact i2
theorem firsts_eq {l : List Se} {ks : List (List B)} {p : List Se} {fs : List Nat} (h : PartAt l 256 ks p fs) : (p.map fun s => (firstS s).getD 0) = fs := by
  refine List.ext_getElem (by simp [h.len]) fun i h1 h2 => ?_
  rw [List.getElem_map, h.first h2 (by simpa using h1)]
  rfl
/-- the join, opened -/
theorem join_open (f : Bool → Bool → Bool) {a b : Dfa} (ha : dfaOk a = true) (hb : dfaOk b = true) : ∃ ks p fs, PartAt (setsD a ++ setsD b) 256 ks p fs ∧ partsM (setsD a ++ setsD b) = .ok p ∧ classM p = some (clsOf (setsD a ++ setsD b) ks) ∧
    joinM f a b = (match fromW (toP a b) (endP f a b) fs 1026 0 [(0, 0)] [] [] with | .error e => .error e | .ok (next, fin) => .ok ⟨clsOf (setsD a ++ setsD b) ks, next, fin⟩) := by
  have hl : (setsD a ++ setsD b).length ≤ 1024 := by
    rw [List.length_append]
    have := (sets_some ha).2.1
    have := (sets_some hb).2.1
    omega
  obtain ⟨ks, p, fs, h1, h2, h3⟩ := parts_law _ hl
  refine ⟨ks, p, fs, h2, h1, h3, ?_⟩
  unfold joinM
  rw [if_pos ⟨ha, hb⟩, h1]
  dsimp only
  rw [h3, firsts_eq h2]
theorem join_bad (f : Bool → Bool → Bool) {a b : Dfa} (h : ¬ (dfaOk a = true ∧ dfaOk b = true)) : joinM f a b = .error 1 := by
  unfold joinM
  rw [if_neg h]
/-- two automatons, joined: it is right, and takes what the marks say -/
theorem join_all {f : Bool → Bool → Bool} {a b d : Dfa} {P : Int × Int → Prop} (ha : dfaOk a = true) (hb : dfaOk b = true) (hP0 : P (0, 0)) (hto : ∀ r, P r → ∀ x, x < 256 → P (toP a b r x)) (h : joinM f a b = .ok d) :
    dfaOk d = true ∧ (∀ w, takesM d w = (f (takesM a w).1 (takesM b w).1, 0)) ∧ ∃ R : List (Int × Int), R.Nodup ∧ (∀ r ∈ R, P r) ∧ d.next.length = R.length ∧ d.fin.length = R.length ∧ ∀ (j : Nat) (r : Int × Int), R[j]? = some r → d.fin[j]? = some (endP f a b r) := by
  obtain ⟨ks, p, fs, hP, _, _, he⟩ := join_open f ha hb
  rw [he] at h
  split at h
  · cases h
  · rename_i next fin ho
    cases h
    obtain ⟨R, hA, hN⟩ := fromW_law (toP a b) (endP f a b) fs (0, 0) P (fun r hr x hx => hto r hr x (hP.lt x hx)) 1026 [(0, 0)] [] [] next fin (WAt.begin hP0) ho
    have hR0 : 0 < R.length := (List.getElem?_eq_some_iff.1 hA.start).1
    have hok : dfaOk ⟨clsOf (setsD a ++ setsD b) ks, next, fin⟩ = true := by
      have hpo : partsOf (clsOf (setsD a ++ setsD b) ks) = some p.length := by
        unfold partsOf
        rw [if_pos (by unfold clsOf; simp)]
        unfold clsOf
        rw [parts_clsOf hP 256 0 0 rfl (Nat.zero_le _) (fun i hi => by omega), hP.len]
      unfold dfaOk
      rw [hpo]
      simp only [Bool.and_eq_true, decide_eq_true_eq, List.all_eq_true]
      refine ⟨⟨⟨by omega, by have := hA.most; omega⟩, hA.len⟩, fun row hr => ?_⟩
      obtain ⟨j, hj, rfl⟩ := List.getElem_of_mem hr
      obtain ⟨h1, h2⟩ := hA.row j hj _ (List.getElem?_eq_getElem (by omega))
      unfold rowOk
      simp only [Bool.and_eq_true, decide_eq_true_eq, List.all_eq_true]
      refine ⟨by rw [h1, hP.len], fun s hs => ?_⟩
      obtain ⟨i, hi, rfl⟩ := List.getElem_of_mem hs
      obtain ⟨k, h3, h4⟩ := h2 i (by omega)
      rw [List.getElem?_eq_getElem hi] at h3
      have hkl : k < R.length := (List.getElem?_eq_some_iff.1 h4).1
      have h5 : next[j][i] = (k : Int) := Option.some.inj h3
      omega
    refine ⟨hok, fun w => ?_, R, hA.nodup, hA.all, hN, by rw [← hN]; exact hA.len, fun j r hj => hA.fin j r (by have := (List.getElem?_eq_some_iff.1 hj).1; omega) hj⟩
    obtain ⟨k, h1, h2, h3⟩ := join_go ha hb hP hA hN w 0 0 0 hA.start
    unfold takesM
    rw [if_pos hok, if_pos ha, if_pos hb]
    refine Prod.ext ?_ rfl
    have h2' : runFrom ⟨clsOf (setsD a ++ setsD b) ks, next, fin⟩ 0 w = (k : Int) := h2
    show fin.getD (runFrom _ 0 w).toNat false = _
    rw [h2', Int.toNat_natCast, getD_some (hA.fin k _ (by omega) h3) false]
    rfl
theorem join_ok {f : Bool → Bool → Bool} {a b d : Dfa} (h : joinM f a b = .ok d) : dfaOk a = true ∧ dfaOk b = true := by
  by_cases hab : dfaOk a = true ∧ dfaOk b = true
  · exact hab
  · rw [join_bad f hab] at h; cases h
theorem join_law {f : Bool → Bool → Bool} {a b d : Dfa} (h : joinM f a b = .ok d) : dfaOk d = true ∧ ∀ w, takesM d w = (f (takesM a w).1 (takesM b w).1, 0) := by
  obtain ⟨ha, hb⟩ := join_ok h
  obtain ⟨h1, h2, _⟩ := join_all (P := fun _ => True) ha hb trivial (fun _ _ _ _ => trivial) h
  exact ⟨h1, h2⟩
theorem join_err {f : Bool → Bool → Bool} {a b : Dfa} {e : Int} (ha : dfaOk a = true) (hb : dfaOk b = true) (h : joinM f a b = .error e) : e = 2 := by
  obtain ⟨ks, p, fs, hP, _, _, he⟩ := join_open f ha hb
  rw [he] at h
  split at h
  · rename_i ho
    cases h
    exact (fromW_err (toP a b) (endP f a b) fs (0, 0) (fun _ => True) (fun _ _ _ _ => trivial) 1026 [(0, 0)] [] [] _ (WAt.begin trivial) (by simp) ho).1
  · cases h
/-- automatons that go alike are joined alike -/
theorem join_like (f g : Bool → Bool → Bool) {a b a' b' : Dfa} (ha : dfaOk a = true) (hb : dfaOk b = true) (ha' : dfaOk a' = true) (hb' : dfaOk b' = true) (e1 : a'.cls = a.cls) (e2 : a'.next = a.next) (e3 : b'.cls = b.cls) (e4 : b'.next = b.next) :
    (∃ d d', joinM f a b = .ok d ∧ joinM g a' b' = .ok d' ∧ d'.cls = d.cls ∧ d'.next = d.next) ∨ ∃ e, joinM f a b = .error e ∧ joinM g a' b' = .error e := by
  have s1 : setsD a' = setsD a := by unfold setsD; rw [e1]
  have s2 : setsD b' = setsD b := by unfold setsD; rw [e3]
  have s3 : toP a' b' = toP a b := by
    funext r x
    unfold toP stepD
    rw [e1, e2, e3, e4]
  obtain ⟨ks, p, fs, h1, h2, h3, he⟩ := join_open f ha hb
  have he' : joinM g a' b' = (match fromW (toP a b) (endP g a' b') fs 1026 0 [(0, 0)] [] [] with | .error e => .error e | .ok (next, fin) => .ok ⟨clsOf (setsD a ++ setsD b) ks, next, fin⟩) := by
    unfold joinM
    rw [if_pos ⟨ha', hb'⟩, s1, s2, s3, h2]
    dsimp only
    rw [h3, firsts_eq h1]
  rcases fromW_ends (toP a b) (endP f a b) (endP g a' b') fs 1026 0 [(0, 0)] [] [] [] with ⟨N, E, E', x1, x2⟩ | ⟨e, x1, x2⟩
  · rw [x1] at he
    rw [x2] at he'
    exact .inl ⟨_, _, he, he', rfl, rfl⟩
  · rw [x1] at he
    rw [x2] at he'
    exact .inr ⟨e, he, he'⟩
/-- two that go alike: the pairs are those of one state -/
theorem join_self (f : Bool → Bool → Bool) {a b : Dfa} (ha : dfaOk a = true) (hb : dfaOk b = true) (e1 : b.cls = a.cls) (e2 : b.next = a.next) :
    ∃ d, joinM f a b = .ok d ∧ d.next.length ≤ a.next.length ∧ ∀ j, j < d.fin.length → ∃ x : Nat, d.fin[j]? = some (f (a.fin.getD x false) (b.fin.getD x false)) := by
  let P : Int × Int → Prop := fun r => r.1 = r.2 ∧ 0 ≤ r.1 ∧ r.1 < a.next.length
  have hn := (dfaOk_parts ha)
  have hP0 : P (0, 0) := by
    obtain ⟨m, _, _, h1, _⟩ := hn
    exact ⟨rfl, Int.le_refl _, by show (0 : Int) < _; omega⟩
  have hto : ∀ r, P r → ∀ x, x < 256 → P (toP a b r x) := fun r hr x hx => by
    obtain ⟨h1, h2, h3⟩ := hr
    have h4 := step_in ha h2 h3 hx
    refine ⟨?_, h4.1, h4.2⟩
    show stepD a r.1 x = stepD b r.2 x
    unfold stepD
    rw [e1, e2, h1]
  have hL : ∀ R : List (Int × Int), R.Nodup → (∀ r ∈ R, P r) → R.length ≤ a.next.length := fun R h1 h2 => by
    have := sub_len' R ((List.range a.next.length).map fun (k : Nat) => ((k : Int), (k : Int))) h1 fun r hr => by
      obtain ⟨h3, h4, h5⟩ := h2 r hr
      refine List.mem_map.2 ⟨r.1.toNat, List.mem_range.2 (by omega), ?_⟩
      exact Prod.ext (by show ((r.1.toNat : Nat) : Int) = r.1; omega) (by show ((r.1.toNat : Nat) : Int) = r.2; omega)
    simpa using this
  obtain ⟨m, _, _, _, hm, _⟩ := hn
  rcases hx : joinM f a b with e | d
  · exfalso
    obtain ⟨ks, p, fs, hP, _, _, he⟩ := join_open f ha hb
    rw [he] at hx
    split at hx
    · rename_i ho
      obtain ⟨_, R, r1, r2, r3⟩ := fromW_err (toP a b) (endP f a b) fs (0, 0) P (fun r hr x hx => hto r hr x (hP.lt x hx)) 1026 [(0, 0)] [] [] _ (WAt.begin hP0) (by simp) ho
      have := hL R r2 r3
      omega
    · cases hx
  · obtain ⟨_, _, R, r1, r2, r3, r4, r5⟩ := join_all ha hb hP0 hto hx
    refine ⟨d, rfl, by rw [r3]; exact hL R r1 r2, fun j hj => ?_⟩
    have hjl : j < R.length := by omega
    have h1 := r5 j _ (List.getElem?_eq_getElem hjl)
    have h2 := (r2 _ (List.getElem_mem hjl)).1
    refine ⟨R[j].1.toNat, ?_⟩
    rw [h1]
    unfold endP
    rw [← h2]
/-! one that is turned -/
theorem run_like {a b : Dfa} (e1 : b.cls = a.cls) (e2 : b.next = a.next) : ∀ (w : List B) (s : Int), runFrom b s w = runFrom a s w
  | [], _ => rfl
  | c :: w, s => by
    unfold runFrom
    rw [goM_step, goM_step, show stepD b s c.toNat = stepD a s c.toNat by unfold stepD; rw [e1, e2]]
    exact run_like e1 e2 w _
theorem not_ok' {a : Dfa} (h : dfaOk a = true) : dfaOk ⟨a.cls, a.next, a.fin.map (!·)⟩ = true := by
  unfold dfaOk at h ⊢
  simpa using h
theorem not_law {a d : Dfa} (h : notM a = .ok d) : dfaOk a = true ∧ dfaOk d = true ∧ d.cls = a.cls ∧ d.next = a.next ∧ notM d = .ok a ∧ ∀ w, takesM d w = (!(takesM a w).1, 0) := by
  unfold notM at h
  split at h
  · rename_i ha
    cases h
    have hd := not_ok' ha
    refine ⟨ha, hd, rfl, rfl, ?_, fun w => ?_⟩
    · have e : (a.fin.map (!·)).map (!·) = a.fin := by rw [List.map_map]; simp [Function.comp_def]
      unfold notM
      rw [if_pos hd]
      show Except.ok (⟨a.cls, a.next, (a.fin.map (!·)).map (!·)⟩ : Dfa) = .ok a
      rw [e]
    · have hin := runFrom_in ha w (s := 0) (Int.le_refl _) (by obtain ⟨m, _, _, h1, _⟩ := dfaOk_parts ha; omega)
      obtain ⟨m, _, _, _, _, h5, _⟩ := dfaOk_parts ha
      unfold takesM
      rw [if_pos hd, if_pos ha]
      refine Prod.ext ?_ rfl
      have e : runFrom ⟨a.cls, a.next, a.fin.map (!·)⟩ 0 w = runFrom a 0 w := run_like (a := a) (b := ⟨a.cls, a.next, a.fin.map (!·)⟩) rfl rfl w 0
      show (a.fin.map (!·)).getD (runFrom _ 0 w).toNat false = _
      rw [e]
      have hl : (runFrom a 0 w).toNat < a.fin.length := by omega
      simp [hl]
  · cases h
theorem not_bad {a : Dfa} (h : ¬ dfaOk a = true) : notM a = .error 1 := by unfold notM; rw [if_neg h]
theorem not_some {a : Dfa} (h : dfaOk a = true) : ∃ d, notM a = .ok d := ⟨_, by unfold notM; rw [if_pos h]⟩
end Go.Proofs.YtfjomnhdmkbkiaaDoor.Im

namespace Go.Proofs.YtfjomnhdmkbkiaaDoor.Im
open Go.RowKit Go.Lib Go.Maps

set_option maxRecDepth 100000 in
set_option maxHeartbeats 4000000 in
theorem grow_any (n : Nat) (h0 : 0 < n) (hn : n ≤ 1024) (w : World) :
    Calls Tryd.prog 95 #[.slice none 0 0, .int .i64 n] w fun e w' => ∃ v, e = .returned v ∧ w'.ownsRow w.heap.size 65 4 v 0 [] ∧ Below w.heap.size w w' := by
  obtain ⟨i0, hi, hz0, hz1, hz2⟩ := info_parts infoSet
  have happ := Lib.run_append_nil_zeros (P := Tryd.prog) w 56 3 56 65 i0 _ .i64 .i64 Tryd.underlying56 Tryd.underlying3 hi hz0 n h0 (by rw [hz1]; decide) (by omega) (by rw [hz2]; omega)
  generalize hcap : grownCap w n 0 65 = cap2 at happ
  have hcapge : n ≤ cap2 := by rw [← hcap]; exact grownCap_ge w _ 0 _
  have hcaple : cap2 ≤ maxLen := by rw [← hcap]; exact grownCap_le_maxLen w _ 0 _ (by unfold maxLen; omega)
  generalize hZ : (Builtin.zeroCells _ n ++ Builtin.zeroCells _ (cap2 - n)) = Z at happ
  have hZs : Z.size = cap2 * 4 := by rw [← hZ]; simp [size_zeroCells, Value.cells]; omega
  have hn0 : ¬ ((n : Int) < 0) := by omega
  have hn1 : (0 : Int) < (n : Int) := by omega
  have HZS := hid hZs
  have HCAP := hid hcaple
  clear hcap hZ hi hz0 hz1 hz2 hZs
  unfold maxLen at hcaple
  go_enter Tryd.func95, Tryd.ntmps95
  go_wp2_with (at_builtin; refine Lib.wpList_append_run _ rfl _ _ _ _ rfl _ _ rfl rfl _ _ happ ?_)
  go_ret
  refine ⟨_, rfl, ⟨rfl, .inr ⟨w.heap.size, cap2, Z, rfl, Nat.le_refl _, ?_, Nat.zero_le _, HCAP.out, HZS.out, by simp⟩⟩, ?_⟩
  · exact heap_alloc_new w.drew _
  · exact (Below.refl _ _).drew.alloc (Nat.le_refl _) _
theorem own_src {w : World} {base e size n g cap : Nat} {xs : List Value} (h : w.ownsRow base e size (.slice (some ⟨g, 0, none⟩) n cap) n xs) : ∀ j u, xs[j]? = some u → w.cell? ((⟨g, 0, none⟩ : Addr).add j) = some u := fun j u hu => by
  have hj : j < n * size := by rw [← h.1]; exact (List.getElem?_eq_some_iff.1 hu).1
  have := h.cellAt j hj
  rw [hu] at this
  rw [Addr.add_lit, Nat.zero_add]
  exact this
theorem flat_one (l : List Se) : ∀ u ∈ flat l, u.oneCell' = true := fun u hu => by
  unfold flat at hu
  obtain ⟨s, _, hs⟩ := List.mem_flatMap.1 hu
  simp at hs
  rcases hs with rfl | rfl | rfl | rfl <;> rfl
theorem flat_two (l m : List Se) : flat (l ++ m) = flat l ++ flat m := by unfold flat; rw [List.flatMap_append]
set_option maxRecDepth 100000 in
set_option maxHeartbeats 4000000 in
theorem concat_any {w : World} {B g1 g2 c1 c2 D cq : Nat} {l m : List Se} (hl : w.ownsRow B 65 4 (.slice (some ⟨g1, 0, none⟩) l.length c1) l.length (flat l)) (hm : w.ownsRow B 65 4 (.slice (some ⟨g2, 0, none⟩) m.length c2) m.length (flat m)) (hl0 : 0 < l.length) (hl1 : l.length ≤ 256) (hm1 : m.length ≤ 256)
    (hD : w.heap[D]? = some (.cells #[.slice (some ⟨g1, 0, none⟩) l.length c1, .slice (some ⟨g2, 0, none⟩) m.length c2] 56 (0, 0))) :
    Calls Tryd.prog 92 #[.slice (some ⟨D, 0, none⟩) 2 cq] w (UnlikePost w (l ++ m)) := by
  obtain ⟨i0, hi, hz0, hz1, hz2⟩ := info_parts infoSet
  have HI := hid hi
  have HZ := hid (And.intro hz0 (And.intro hz1 hz2))
  have HL := hid hl
  have HM := hid hm
  have HD := hid hD
  have hlm : 0 < l.length + m.length := by omega
  have hlm2 : l.length + m.length ≤ 512 := by omega
  have hgr := grow_any (l.length + m.length) hlm (by omega)
  have e0 : ((l.length + m.length : Nat) : Int) = (l.length : Int) + (m.length : Int) := by omega
  rw [e0] at hgr
  have HGR := hid hgr
  have d0 := cell_blk (i := 0) hD rfl
  have d1 := cell_blk (i := 1) hD rfl
  clear hi hz0 hz1 hz2 hl hm hD hgr e0
  go_enter Tryd.func92, Tryd.ntmps92
  go_wp2_with fail
  refine wp_loop_rounds 3 ?_
  rw [rounds_succ]
  go_wp2_with fail
  rw [rounds_succ]
  go_wp2_with fail
  rw [rounds_succ]
  go_wp2_with fail
  refine (HGR.out w).mono ?_
  rintro e w1 ⟨v, rfl, hown1, hb1⟩
  obtain ⟨adv, cpv, rfl⟩ := own_shape hown1
  have HO1 := hid hown1
  have HB1 := hid hb1
  have hz1 := hb1.size
  have hDl := lt_of_heap HD.out
  have hgl1 := (own_lt HL.out (g := g1) rfl).2
  have hgl2 := (own_lt HM.out (g := g2) rfl).2
  have d0 := cell_blk (i := 0) ((hb1.block D hDl).trans HD.out) rfl
  have d1 := cell_blk (i := 1) ((hb1.block D hDl).trans HD.out) rfl
  clear hown1 hb1 HGR
  go_wp2_with fail
  refine wp_loop_rounds 3 ?_
  rw [rounds_succ]
  go_wp2_with (at_builtin; refine wpList_append_own _ rfl _ _ 56 rfl w.heap.size 65 i0 _ 4 32 Tryd.underlying56 HI.out HZ.out.1 HZ.out.2.1 HZ.out.2.2 rfl (by decide) _ _ _ rfl HO1.out ⟨g1, 0, none⟩ l.length c1 (flat l) rfl (flat_len l) (own_src (own_later HL.out HB1.out)) (flat_one l) (by unfold maxLen; omega) (by omega) hz1 ?_; intro v2 w2 hown2 hgrow2 _; have HO2 := hid hown2; have HG2 := hid hgrow2; clear hown2 hgrow2)
  have hb2 : Below w.heap.size w w2 := HB1.out.grown HG2.out hz1 (fun q hq => (HO1.out.lt q hq).1)
  have HB2 := hid hb2
  have hz2 := hb2.size
  obtain ⟨adv2, cpv2, rfl⟩ := own_shape HO2.out
  clear d0 d1
  have d0 := cell_blk (i := 0) ((hb2.block D hDl).trans HD.out) rfl
  have d1 := cell_blk (i := 1) ((hb2.block D hDl).trans HD.out) rfl
  clear hb2
  rw [rounds_succ]
  go_wp2_with (at_builtin; refine wpList_append_own _ rfl _ _ 56 rfl w.heap.size 65 i0 _ 4 32 Tryd.underlying56 HI.out HZ.out.1 HZ.out.2.1 HZ.out.2.2 rfl (by decide) _ _ _ rfl HO2.out ⟨g2, 0, none⟩ m.length c2 (flat m) rfl (flat_len m) (own_src (own_later HM.out HB2.out)) (flat_one m) (by unfold maxLen; omega) (by omega) hz2 ?_; intro v3 w3 hown3 hgrow3 _; have HO3 := hid hown3; have HG3 := hid hgrow3; clear hown3 hgrow3)
  have HB3 := hid (HB2.out.grown HG3.out hz2 (fun q hq => (HO2.out.lt q hq).1))
  rw [rounds_succ]
  go_wp2_with fail
  go_ret
  have hO := HO3.out
  rw [List.nil_append, ← flat_two, Nat.zero_add, ← List.length_append] at hO
  obtain ⟨ad3, cp3, rfl⟩ := own_shape hO
  exact ⟨HB3.out, ad3, cp3, rfl, hO⟩
set_option maxRecDepth 100000 in
set_option maxHeartbeats 4000000 in
theorem shared_any {F G : Nat → Prop} {w : World} {a1 a2 a3 b1 b2 b3 : Value} {a b : Dfa} {ks : List (List B)} {p : List Se} {fs : List Nat} (ha : DfaIn F w a1 a2 a3 a) (hb : DfaIn G w b1 b2 b3 b) (hF : ∀ g, F g → g < w.heap.size) (hG : ∀ g, G g → g < w.heap.size) (hT : Tab w) (hoka : dfaOk a = true) (hokb : dfaOk b = true)
    (hp : PartAt (setsD a ++ setsD b) 256 ks p fs) (hpm : partsM (setsD a ++ setsD b) = .ok p) (hcm : classM p = some (clsOf (setsD a ++ setsD b) ks)) :
    Calls Tryd.prog 87 #[.agg #[a1, a2, a3], .agg #[b1, b2, b3]] w fun e w' => ∃ adp cpp C, e = .returned (.tuple #[.slice adp p.length cpp, .slice (some ⟨C, 0, none⟩) 256 256, .int .i64 0]) ∧ w.heap.size ≤ C ∧ w'.ownsRow w.heap.size 65 4 (.slice adp p.length cpp) p.length (flat p) ∧ ClsIn w' C (clsOf (setsD a ++ setsD b) ks) ∧ Below w.heap.size w w' := by
  obtain ⟨L, hL⟩ : ∃ L, L = setsD a ++ setsD b := ⟨_, rfl⟩
  rw [← hL] at hp hpm hcm ⊢
  have HL := hid hL
  clear hL
  obtain ⟨W0, hW0⟩ : ∃ W0, W0 = (w.alloc (.cells #[a1, a2, a3] 30)).alloc (.cells #[b1, b2, b3] 30) := ⟨_, rfl⟩
  have hA0 : W0.heap[w.heap.size]? = some (.cells #[a1, a2, a3] 30 (0, 0)) := by rw [hW0]; exact (alloc_old (by simp)).trans (heap_alloc_new _ _)
  have hR0 : W0.heap[w.heap.size + 1]? = some (.cells #[b1, b2, b3] 30 (0, 0)) := by rw [hW0]; exact newB _ _ _
  have hB0 : Below w.heap.size w W0 := by rw [hW0]; exact ((Below.refl _ _).alloc (Nat.le_refl _) _).alloc (by simp) _
  have hz0 : W0.heap.size = w.heap.size + 2 := by rw [hW0]; simp
  have HB := hid (fun (W : World) (h : Below (w.heap.size + 2) W0 W) => hB0.trans (h.mono (by omega)))
  have HA := hid (fun (W : World) (h : Below (w.heap.size + 2) W0 W) => (show DfaIn F W a1 a2 a3 a from ha.frame (fun _ h => h) (fun g hg _ => (HB.out W h).block g (hF g hg))))
  have HC := hid (fun (W : World) (h : Below (w.heap.size + 2) W0 W) => (show DfaIn G W b1 b2 b3 b from hb.frame (fun _ h => h) (fun g hg _ => (HB.out W h).block g (hG g hg))))
  have HF := hid (fun (W : World) (h : Below (w.heap.size + 2) W0 W) (g : Nat) (hg : F g) => (show g < W.heap.size from Nat.lt_of_lt_of_le (hF g hg) (HB.out W h).size))
  have HG := hid (fun (W : World) (h : Below (w.heap.size + 2) W0 W) (g : Nat) (hg : G g) => (show g < W.heap.size from Nat.lt_of_lt_of_le (hG g hg) (HB.out W h).size))
  have HX := hid (fun (W : World) (h : Below (w.heap.size + 2) W0 W) => dcells ((h.block w.heap.size (by omega)).trans hA0))
  have HY := hid (fun (W : World) (h : Below (w.heap.size + 2) W0 W) => dcells ((h.block (w.heap.size + 1) (by omega)).trans hR0))
  have HTH := hid (fun (W W' : World) (h : Below (w.heap.size + 2) W0 W) (h' : Below W.heap.size W W') => h.trans (h'.mono (by have := h.size; omega)))
  obtain ⟨ada, cpa, rfl, hma, _⟩ := ha.cls
  obtain ⟨adb, cpb, rfl, hmb, _⟩ := ha.next
  obtain ⟨adc, cpc, rfl, hmc, _⟩ := ha.fin
  obtain ⟨ada', cpa', rfl, hma', _⟩ := hb.cls
  obtain ⟨adb', cpb', rfl, hmb', _⟩ := hb.next
  obtain ⟨adc', cpc', rfl, hmc', _⟩ := hb.fin
  have HW0 := hid hW0
  have HT := hid hT
  have HSA := hid (sets_some hoka)
  have HSB := hid (sets_some hokb)
  have HP := hid hp
  have HPM := hid hpm
  have HCM := hid hcm
  have HLA := hid (show 0 < (setsD a).length by
    have h := (setsOf_law HSA.out.1).lt 0 (by decide)
    omega)
  have HLB := hid (show 0 < (setsD b).length by
    have h := (setsOf_law HSB.out.1).lt 0 (by decide)
    omega)
  clear ha hb hF hG hT hA0 hR0 hB0 hW0 hz0 hp hpm hcm
  obtain ⟨q0, q1, q2⟩ := HX.out W0 (Below.refl _ _)
  have hs1 := sets_any (HA.out W0 (Below.refl _ _)).cls (HF.out W0 (Below.refl _ _))
  rw [HSA.out.1] at hs1
  go_enter Tryd.func87, Tryd.ntmps87
  go_upto_region 1 with fail
  rw [← HW0.out]
  go_wp2_with fail
  refine hs1.mono ?_
  clear hs1 q0 q1 q2
  rintro e w1 ⟨hb1, ad1, cp1, rfl, ho1⟩
  have HO1 := hid ho1
  have H1 := hid (HTH.out _ _ (Below.refl _ _) hb1)
  clear ho1 hb1
  obtain ⟨r0, r1, r2⟩ := HY.out w1 H1.out
  have hs2 := sets_any (HC.out w1 H1.out).cls (HG.out w1 H1.out)
  rw [HSB.out.1] at hs2
  go_wp2_with fail
  refine hs2.mono ?_
  clear hs2 r0 r1 r2
  rintro e w2 ⟨hb2, ad2, cp2, rfl, ho2⟩
  have HO2 := hid (own_mono ho2 H1.out.size)
  have HO1 := hid (own_later HO1.out hb2)
  have H2 := hid (HTH.out _ _ H1.out hb2)
  clear ho2 hb2
  obtain ⟨g1, rfl⟩ : ∃ g, ad1 = some ⟨g, 0, none⟩ := by
    obtain ⟨g, c, e, _⟩ := HO1.out.form HLA.out
    cases e
    exact ⟨g, rfl⟩
  obtain ⟨g2, rfl⟩ : ∃ g, ad2 = some ⟨g, 0, none⟩ := by
    obtain ⟨g, c, e, _⟩ := HO2.out.form HLB.out
    cases e
    exact ⟨g, rfl⟩
  go_upto_region 7 with fail
  obtain ⟨W3, hW3⟩ : ∃ W3, W3 = w2.alloc (.cells #[.slice (some ⟨g1, 0, none⟩) (setsD a).length cp1, .slice (some ⟨g2, 0, none⟩) (setsD b).length cp2] 56) := ⟨_, rfl⟩
  have HB3 := hid (show Below w2.heap.size w2 W3 by rw [hW3]; exact (Below.refl _ _).alloc (Nat.le_refl _) _)
  have H3 := hid (HTH.out _ _ H2.out HB3.out)
  have hcc := concat_any (w := W3) (B := W0.heap.size) (D := w2.heap.size) (cq := 2) (own_later HO1.out HB3.out) (own_later HO2.out HB3.out) HLA.out HSA.out.2.1 HSB.out.2.1 (by rw [hW3]; exact heap_alloc_new _ _)
  rw [← HL.out] at hcc
  have HW3 := hid hW3
  clear hW3
  go_wp2_with fail
  rw [← HW3.out]
  refine hcc.mono ?_
  clear hcc
  rintro e w4 ⟨hb4, ad4, cp4, rfl, ho4⟩
  have H4 := hid (HTH.out _ _ H3.out hb4)
  have hlen : L.length ≤ 512 := by
    rw [HL.out, List.length_append]
    have h1 := HSA.out.2.1
    have h2 := HSB.out.2.1
    omega
  have hpa := parts_any (sets_of_own ho4 rfl (by unfold maxLen; omega)) (fun g hg => hg.2) (by omega)
  have hpf : partFrom L 256 0 [] [] = p := by
    have h := HPM.out
    unfold partsM at h
    rw [if_neg (by omega)] at h
    exact Except.ok.inj h
  rw [hpf] at hpa
  clear ho4 hb4 hpf hlen
  go_wp2_with fail
  refine hpa.mono ?_
  clear hpa
  rintro e w5 ⟨hb5, adp, cpp, rfl, hop⟩
  have H5 := hid (HTH.out _ _ H4.out hb5)
  have HOP := hid (own_mono hop (Nat.le_trans (HB.out _ H4.out).size (Nat.le_refl _)))
  have hfew := HP.out.few
  have hcl := class_any (sets_of_own hop rfl (by unfold maxLen; omega)) (fun g hg => hg.2) (by omega) HP.out.ok (HT.out.below (HB.out _ H5.out)) HCM.out
  clear hop hb5
  go_wp2_with fail
  refine hcl.mono ?_
  clear hcl
  rintro e w6 ⟨rfl, hcls, hb6⟩
  have HCS := hid hcls
  have H6 := hid (HTH.out _ _ H5.out hb6)
  have HOP6 := hid (own_later HOP.out hb6)
  clear hcls hb6
  go_wp2_with fail
  refine bodyPost_ret (results_tmp3 rfl _ _ _) rfl ?_
  exact ⟨_, _, _, rfl, (HB.out _ H5.out).size, HOP6.out, HCS.out, HB.out _ H6.out⟩
end Go.Proofs.YtfjomnhdmkbkiaaDoor.Im

namespace Go.Proofs.YtfjomnhdmkbkiaaDoor.Im
open Go.RowKit Go.Lib Go.Maps

abbrev Pr := Int × Int
abbrev Pr.v (r : Pr) : Value := .agg #[.int .i64 r.1, .int .i64 r.2]
abbrev Pr.cs (r : Pr) : Array Value := #[.int .i64 r.1, .int .i64 r.2]
def flatP (l : List Pr) : List Value := l.flatMap fun r => r.cs.toList
theorem flatP_snoc (l : List Pr) (r : Pr) : flatP (l ++ [r]) = flatP l ++ r.cs.toList := by unfold flatP; rw [List.flatMap_append]; simp
theorem flatP_cons (r : Pr) (l : List Pr) : flatP (r :: l) = .int .i64 r.1 :: .int .i64 r.2 :: flatP l := rfl
theorem flatP_len : ∀ (l : List Pr), (flatP l).length = l.length * 2
  | [] => rfl
  | r :: l => by rw [flatP_cons]; simp [flatP_len l]; omega
theorem flatP_get (i : Nat) (hi : i < 2) : ∀ (l : List Pr) (j : Nat) (h : j < l.length), (flatP l)[j * 2 + i]? = l[j].cs[i]?
  | r :: l, 0, _ => by
    rw [flatP_cons]
    rcases i with _ | _ | i
    · rfl
    · rfl
    · omega
  | r :: l, j + 1, h => by
    rw [flatP_cons, show (j + 1) * 2 + i = (j * 2 + i) + 1 + 1 by omega, List.getElem?_cons_succ, List.getElem?_cons_succ]
    exact flatP_get i hi l j (by simpa using h)
abbrev OwnPrs (w : World) (base : Nat) (v : Value) (l : List Pr) : Prop := w.ownsRow base 97 2 v l.length (flatP l)
theorem prs_at {w : World} {base cap : Nat} {ad : Option Addr} {l : List Pr} (h : OwnPrs w base (.slice ad l.length cap) l) {j : Nat} (hj : j < l.length) : ∃ g, ad = some ⟨g, 0, none⟩ ∧ w.cell? ⟨g, j * 2, none⟩ = some (.int .i64 l[j].1) ∧ w.cell? ⟨g, j * 2 + 1, none⟩ = some (.int .i64 l[j].2) := by
  obtain ⟨g, c, e, _⟩ := h.form (by omega)
  cases e
  have h0 := h.cellAt (j * 2) (by omega)
  have h1 := h.cellAt (j * 2 + 1) (by omega)
  have e0 := flatP_get 0 (by decide) l j hj
  have e1 := flatP_get 1 (by decide) l j hj
  rw [Nat.add_zero] at e0
  rw [e0] at h0
  rw [e1] at h1
  exact ⟨g, rfl, h0, h1⟩
theorem infoP : (Tryd.prog.info? 97).map (fun i => (i.zero, i.size, i.bytes)) = some (some (.agg #[.int .i64 0, .int .i64 0]), 2, 16) := by kernel_rfl
/-! pairs as keys -/
theorem rowP : (97 : TypeId) < Tryd.prog.types.size := of_decide_eq_true (by kernel_rfl)
theorem wideP : (match Tryd.prog.underlying 97 with | some (.array _ _) | some (.struct _) => true | _ => false) = true := by rw [Tryd.underlying97]
theorem deepP : Tryd.prog.keyTypeAt 2 97 = true := by kernel_rfl
set_option maxRecDepth 100000 in
theorem prKey : Keyed Tryd.prog 97 := Keyed.of_law (deep_law_laid laidOut (m := 2) hm2 rowP deepP wideP)
theorem cellsP : Tryd.prog.cellsOf 97 = 2 := by kernel_rfl
theorem cellsInt : Tryd.prog.cellsOf 3 = 1 := by kernel_rfl
theorem keyP : Tryd.prog.keyType 97 = true := by kernel_rfl
def prOk (r : Pr) : Prop := (0 ≤ r.1 ∧ r.1 ≤ 9223372036854775807) ∧ 0 ≤ r.2 ∧ r.2 ≤ 9223372036854775807
theorem lit_int (m : Nat) {x : Int} (h0 : 0 ≤ x) (h1 : x ≤ 9223372036854775807) : Tryd.prog.keyLits (m + 1) 3 [.int .i64 x] = some [.int .i64 x] := by
  unfold Program.keyLits
  rw [Tryd.underlying3]
  simp [WalkArith.wf_i64 (n := x) (by omega)]
theorem keyOf_pr {r : Pr} (h : prOk r) : ∃ l, keyOf Tryd.prog 97 r.v = some l := by
  obtain ⟨m, hm⟩ := typesSize
  unfold keyOf
  rw [Tryd.underlying97]
  simp only [keyP, Value.formed, Tryd.underlying97, cellsP, hm]
  have : Tryd.prog.keyLits (m + 1 + 1) 97 [.int .i64 r.1, .int .i64 r.2] = some [.int .i64 r.1, .int .i64 r.2] := by
    unfold Program.keyLits
    rw [Tryd.underlying97]
    simp [cellsP, cellsInt, List.range, List.range.loop, lit_int _ h.1.1 h.1.2, lit_int _ h.2.1 h.2.2]
  exact ⟨_, by simp [Value.cells, this]; rfl⟩
theorem prV_inj (x y : Pr) (h : x.v = y.v) : x = y := by
  obtain ⟨a, b⟩ := x
  obtain ⟨a', b'⟩ := y
  simp at h
  simp [h]
abbrev PrKeys (w : World) (b : Nat) (ks : List Pr) : Prop := PlacesAt Tryd.prog 97 3 Pr.v w b ks
section
variable {P : Program} (w : World) {ops : Array Oper} {rest : List Oper} {o : Oper} {a : Act} {Q : Exit → Act → World → Prop}
/-- the first key of a map that a literal makes -/
theorem wpList_place_ins (hg : o.guard = none) (m x v : Operand) (t : TypeId) (hop : o.op = Op.insert t m x v) (K E : TypeId) (law : Keyed P K) (ht : P.underlying t = some (.map K E)) (he : P.underlying E = some (.int .i64))
    {κ : Type} [DecidableEq κ] (enc : κ → Value) (hinj : ∀ x y, enc x = enc y → x = y) (b : Nat) (ks : List κ) (hm : a.eval m = .map (some b)) (hown : PlacesAt P K E enc w b ks) (hn : ks.length < maxLen) (y : κ) (l : Lit) (hx : a.eval x = enc y) (hv : a.eval v = .int .i64 (ks.length : Int)) (hkey : keyOf P K (enc y) = some l) (hy : y ∉ ks)
    (hK : ∀ w', PlacesAt P K E enc w' b (ks ++ [y]) → w.mapTurned w' b → wpList P ops Q rest (a.put o.dst undef) w') : wpList P ops Q (o :: rest) a w := by
  obtain ⟨D, h1, h2, h3⟩ := hown
  refine wpList_plain hg fun K' hK' => ?_
  obtain ⟨w', hrun, g1, g2⟩ := h1.store law ht hn hkey (val := .int .i64 (ks.length : Int)) (plainElem_int he (WalkArith.wf_i64 (by unfold maxLen at hn; omega)))
  unfold Oper.wp
  simp [execOp, hop, hm, hx, hv, hrun, Result.andThen]
  refine hK' _ _ (hK w' ⟨_, by rw [List.length_append]; exact g1, h2.put _ _, fun z l' hl' => ?_⟩ g2)
  by_cases e : z = y
  · subst e
    rw [hkey] at hl'
    cases hl'
    refine ⟨?_, fun _ => ?_⟩
    · rw [has_put_same h2 (law.key hkey)]; simp
    · rw [atKey_put_same h2 (law.key hkey), idx_new hy]
  · have hne : l' ≠ l := fun e' => e (hinj _ _ (law.inj hl' (e' ▸ hkey)))
    refine ⟨?_, fun hz => ?_⟩
    · rw [has_put_other hne, (h3 z l' hl').1]; simp [e]
    · have hz' : z ∈ ks := by simpa [e] using hz
      rw [atKey_put_other hne, (h3 z l' hl').2 hz', idx_old hz']
end
end Go.Proofs.YtfjomnhdmkbkiaaDoor.Im

namespace Go.Proofs.YtfjomnhdmkbkiaaDoor.Im
open Go.RowKit Go.Lib Go.Maps

theorem own_apart3 {w : World} {base base' e e' k k' n n' : Nat} {v v' : Value} {xs xs' : List Value} (h : w.ownsRow base e k v n xs) (h' : w.ownsRow base' e' k' v' n' xs') (he : e ≠ e') : ∀ g, v.ownBlock = some g → v'.ownBlock ≠ some g := fun g hg hg' => by
  obtain ⟨c, hc⟩ := own_tag h hg
  obtain ⟨c', hc'⟩ := own_tag h' hg'
  rw [hc] at hc'; cases hc'; exact he rfl
/-- at the head of the outer loop; Wl: the memory when it began -/
structure PBase (Wl : World) (Bd g0 M C : Nat) (W : World) (rows : List Pr) (next : List (List Int)) (fin : List Bool) (rv nv ev : Value) : Prop where
  turn : Turn (fun g => g = Bd ∨ g = g0 ∨ g = M) Wl W
  dbox : W.heap[Bd]? = some (.cells #[.slice (some ⟨C, 0, none⟩) 256 256, nv, ev] 30 (0, 0))
  rws : OwnPrs W g0 rv rows
  rvb : ∀ g, rv.ownBlock = some g → g = g0 ∨ Wl.heap.size ≤ g
  keys : PrKeys W M rows
  nxt : NextIn W Wl.heap.size nv next fun _ => False
  fins : OwnBools W Wl.heap.size ev fin
theorem PBase.start {Wl : World} {Bd g0 M C : Nat} {r : Pr} (hd : Wl.heap[Bd]? = some (.cells #[.slice (some ⟨C, 0, none⟩) 256 256, .slice none 0 0, .slice none 0 0] 30 (0, 0))) (hg : Wl.heap[g0]? = some (.cells r.cs 97 (0, 0))) (hk : PrKeys Wl M [r]) :
    PBase Wl Bd g0 M C Wl [r] [] [] (.slice (some ⟨g0, 0, none⟩) 1 1) (.slice none 0 0) (.slice none 0 0) := by
  refine ⟨Turn.refl _ _, hd, ⟨rfl, .inr ⟨g0, 1, r.cs, rfl, Nat.le_refl _, hg, Nat.le_refl _, by unfold maxLen; omega, rfl, rfl⟩⟩, fun g hg => ?_, hk, ⟨⟨[], World.ownsRow_nil _ _ _ _, rfl, fun i v l e1 _ => ?_⟩, fun g hg => ?_⟩, World.ownsRow_nil _ _ _ _⟩
  · cases hg; exact .inl rfl
  · simp at e1
  · cases hg
theorem PBase.below {Wl W W' : World} {Bd g0 M C : Nat} {rows : List Pr} {next : List (List Int)} {fin : List Bool} {rv nv ev : Value} (h : PBase Wl Bd g0 M C W rows next fin rv nv ev) (k : Below W.heap.size W W') : PBase Wl Bd g0 M C W' rows next fin rv nv ev :=
  ⟨h.turn.trans (Turn.of_below k), (k.block _ (lt_of_heap h.dbox)).trans h.dbox, own_later h.rws k, h.rvb, h.keys.block (k.block _ h.keys.lt), h.nxt.keep (fun g _ hg _ _ => k.block g hg) (fun _ _ h => h), own_later h.fins k⟩
theorem PBase.dbox2 {Wl W W2 : World} {Bd g0 M C e k m : Nat} {rows : List Pr} {next : List (List Int)} {fin : List Bool} {rv nv ev u : Value} {xs : List Value} {o : Obj} (h : PBase Wl Bd g0 M C W rows next fin rv nv ev) (hbd : Bd < Wl.heap.size) (hu : W.ownsRow Wl.heap.size e k u m xs) (hg : (W.alloc o).grownBy W2 u.ownBlock) :
    W2.heap[Bd]? = some (.cells #[.slice (some ⟨C, 0, none⟩) 256 256, nv, ev] 30 (0, 0)) := by
  have hws := h.turn.size
  exact (hg.block _ (by simp; omega) (fun e => by have := (hu.lt _ e.symm).1; omega)).trans ((alloc_old (by omega)).trans h.dbox)
/-- the inner walk; Wb: the memory when the round began; ks: the map's keys -/
structure PMid (Wb : World) (g0 M Nb m : Nat) (rv0 : Value) (W : World) (rows ks : List Pr) (acc : List Int) (rv : Value) : Prop where
  turn : Turn (fun g => rv0.ownBlock = some g ∨ g = M) Wb W
  nb : Wb.heap.size ≤ Nb
  rws : OwnPrs W g0 rv rows
  rvb : rv.ownBlock = rv0.ownBlock ∨ ∃ g, rv.ownBlock = some g ∧ Wb.heap.size ≤ g
  keys : PrKeys W M ks
  le : acc.length ≤ m
  nx : W.ownsRow Wb.heap.size 3 1 (.slice (some ⟨Nb, 0, none⟩) m m) m ((acc ++ List.replicate (m - acc.length) 0).map iV)
theorem PMid.start {Wl Wb w1 : World} {Bd g0 M C m : Nat} {rows : List Pr} {next : List (List Int)} {fin : List Bool} {rv nv ev : Value} (h : PBase Wl Bd g0 M C Wb rows next fin rv nv ev) (hown : w1.ownsRow Wb.heap.size 3 1 (.slice (some ⟨Wb.heap.size, 0, none⟩) m m) m (List.replicate m (.int .i64 0))) (hb : Below Wb.heap.size Wb w1) :
    PMid Wb g0 M Wb.heap.size m rv w1 rows rows [] rv :=
  ⟨Turn.of_below hb, Nat.le_refl _, own_later h.rws hb, .inl rfl, h.keys.block (hb.block _ h.keys.lt), Nat.zero_le _, by simpa using hown⟩
theorem PMid.below {Wb W W' : World} {g0 M Nb m : Nat} {rv0 rv : Value} {rows ks : List Pr} {acc : List Int} (h : PMid Wb g0 M Nb m rv0 W rows ks acc rv) (k : Below W.heap.size W W') : PMid Wb g0 M Nb m rv0 W' rows ks acc rv :=
  ⟨h.turn.trans (Turn.of_below k), h.nb, own_later h.rws k, h.rvb, h.keys.block (k.block _ h.keys.lt), h.le, own_later h.nx k⟩
theorem PMid.addKey {Wb W W' : World} {g0 M Nb m : Nat} {rv0 rv : Value} {rows ks ks' : List Pr} {acc : List Int} (h : PMid Wb g0 M Nb m rv0 W rows ks acc rv) (ht : W.mapTurned W' M) (hk : PrKeys W' M ks') : PMid Wb g0 M Nb m rv0 W' rows ks' acc rv :=
  ⟨h.turn.turned ht (.inr rfl), h.nb, own_turned h.rws ht, h.rvb, hk, h.le, own_turned h.nx ht⟩
theorem PlacesAt.apart {κ : Type} [DecidableEq κ] {P : Program} {K E e k n : Nat} {enc : κ → Value} {w : World} {b base : Nat} {ks : List κ} {v : Value} {xs : List Value} (h : PlacesAt P K E enc w b ks) (hv : w.ownsRow base e k v n xs) : v.ownBlock ≠ some b := fun hb => by
  obtain ⟨cur, hc⟩ := own_tag hv hb
  exact (h.notRow hc) rfl
theorem PMid.addRow {Wb W W2 : World} {g0 M Nb m : Nat} {rv0 rv rv' : Value} {rows ks : List Pr} {acc : List Int} {r : Pr} {o : Obj} (h : PMid Wb g0 M Nb m rv0 W rows ks acc rv)
    (hown : W2.ownsRow g0 97 2 rv' (rows.length + 1) (flatP rows ++ r.cs.toList)) (hg : (W.alloc o).grownBy W2 rv.ownBlock) (hat : rv'.ownBlock = rv.ownBlock ∨ rv'.ownBlock = some (W.alloc o).heap.size) :
    PMid Wb g0 M Nb m rv0 W2 (rows ++ [r]) ks acc rv' := by
  have hws := h.turn.size
  have hsame : ∀ g, g < W.heap.size → rv.ownBlock ≠ some g → W2.heap[g]? = W.heap[g]? := fun g hgl hne => (hg.block g (by simp; omega) (fun e => hne e.symm)).trans (alloc_old hgl)
  refine ⟨(h.turn.alloc o).grown' hg fun g hg => ?_, h.nb, ?_, ?_, h.keys.block (hsame _ h.keys.lt (h.keys.apart h.rws)), h.le, own_blk h.nx fun g hg => hsame g (own_lt h.nx hg).2 (own_apart3 h.nx h.rws (by decide) g hg)⟩
  · rcases h.rvb with e | ⟨g', e, hl⟩
    · rw [e] at hg; exact .inl (.inl hg)
    · rw [e] at hg; cases hg; exact .inr hl
  · unfold OwnPrs
    rw [List.length_append, flatP_snoc]
    exact hown
  · rcases hat with e | e
    · rw [e]; exact h.rvb
    · exact .inr ⟨_, e, by simp; omega⟩
theorem rep_put (acc : List Int) {m : Nat} (h : acc.length < m) (x : Int) : (acc ++ List.replicate (m - acc.length) 0).set acc.length x = (acc ++ [x]) ++ List.replicate (m - (acc ++ [x]).length) 0 := by
  rw [List.set_append_right _ _ (Nat.le_refl _), Nat.sub_self, show m - acc.length = (m - acc.length - 1) + 1 by omega, List.replicate_succ, List.set_cons_zero, List.append_assoc, List.length_append]
  simp [Nat.sub_sub]
theorem PMid.put {Wb W : World} {g0 M Nb m : Nat} {rv0 rv : Value} {rows ks : List Pr} {acc : List Int} (h : PMid Wb g0 M Nb m rv0 W rows ks acc rv) (hlt : acc.length < m) (x : Int) : PMid Wb g0 M Nb m rv0 (W.setCell ⟨Nb, acc.length, none⟩ (iV x)) rows ks (acc ++ [x]) rv := by
  have hne : rv.ownBlock ≠ some Nb := fun e => own_apart3 h.rws h.nx (by decide) _ e rfl
  have hnM : Nb ≠ M := fun e => h.keys.apart h.nx (by rw [← e]; rfl)
  refine ⟨h.turn.then (S' := fun g => g = Nb) (Turn.setCell (S := fun g => g = Nb) (Turn.refl _ W) (p := ⟨Nb, acc.length, none⟩) rfl (iV x)) (fun g hg => .inr (by rw [hg]; exact h.nb)), h.nb, own_blk h.rws (fun g hg => heap_setCell_other _ _ _ _ (fun e => hne (by rw [hg]; exact congrArg some e))), h.rvb, h.keys.block (heap_setCell_other _ _ _ _ (fun e => hnM e.symm)), by simp; omega, ?_⟩
  have := own_store (i := acc.length) (iV x) h.nx
  rw [← List.map_set, rep_put acc hlt] at this
  exact this
/-- all parts have come -/
theorem PBase.mid {Wl Wb W : World} {Bd g0 M C Nb m : Nat} {rows rows' : List Pr} {next : List (List Int)} {fin : List Bool} {rv0 rv nv ev : Value} {acc : List Int} (h : PBase Wl Bd g0 M C Wb rows next fin rv0 nv ev) (hm : PMid Wb g0 M Nb m rv0 W rows' rows' acc rv) (hbd : Bd < Wl.heap.size) (hM : M < Wl.heap.size) (h1 : Bd ≠ g0) (h2 : Bd ≠ M) :
    PBase Wl Bd g0 M C W rows' next fin rv nv ev := by
  have hws := h.turn.size
  have hap : ∀ g, Wl.heap.size ≤ g → rv0.ownBlock ≠ some g → ¬ (rv0.ownBlock = some g ∨ g = M) := fun g hl hn h => h.elim hn (fun e => by omega)
  refine ⟨h.turn.then hm.turn fun g hg => ?_, (hm.turn.block _ (lt_of_heap h.dbox) (fun hs => ?_)).trans h.dbox, hm.rws, fun g hg => ?_, hm.keys, h.nxt.keep (fun g hl hg _ ht => hm.turn.block g hg (hap g hl (fun e => ?_))) (fun _ _ h => h), own_blk h.fins fun g hg => hm.turn.block g (own_lt h.fins hg).2 (hap g (own_lt h.fins hg).1 (own_apart3 h.fins h.rws (by decide) g hg))⟩
  · rcases hg with hg | rfl
    · exact (h.rvb g hg).elim (fun e => .inl (.inr (.inl e))) .inr
    · exact .inl (.inr (.inr rfl))
  · rcases hs with hs | hs
    · rcases h.rvb _ hs with e | e
      · exact h1 e
      · omega
    · exact h2 hs
  · rcases hm.rvb with e | ⟨g', e, hl⟩
    · rw [e] at hg; exact h.rvb g hg
    · rw [e] at hg; cases hg; exact .inr (by omega)
  · obtain ⟨cur, hc⟩ := own_tag h.rws e
    have := ht _ _ _ hc
    revert this; decide
theorem PBase.addNext {Wl W W2 : World} {Bd g0 M C : Nat} {rows : List Pr} {next : List (List Int)} {fin : List Bool} {rv nv ev nv' v : Value} {vs : List Value} {o : Obj} {l : List Int} (h : PBase Wl Bd g0 M C W rows next fin rv nv ev) (hbd : Bd < Wl.heap.size) (_ : M < Wl.heap.size) (_ : g0 < Wl.heap.size) (h1 : Bd ≠ g0) (h2 : Bd ≠ M)
    (hvs : W.ownsRow Wl.heap.size 22 1 nv vs.length vs) (hlen : vs.length = next.length) (hrows : ∀ (i : Nat) (v : Value) (l : List Int), vs[i]? = some v → next[i]? = some l → OwnInts W Wl.heap.size v l ∧ ∀ g, v.ownBlock = some g → ¬ False)
    (hv : OwnInts W Wl.heap.size v l) (hown : W2.ownsRow Wl.heap.size 22 1 nv' (vs.length + 1) (vs ++ [v])) (hg : (W.alloc o).grownBy W2 nv.ownBlock) :
    PBase Wl Bd g0 M C (W2.setCell ⟨Bd, 1, none⟩ nv') rows (next ++ [l]) fin rv nv' ev := by
  have hws := h.turn.size
  have hnb : nv.ownBlock ≠ some Bd := fun e => by have := (own_lt hvs e).1; omega
  have hd2 : W2.heap[Bd]? = some (.cells #[.slice (some ⟨C, 0, none⟩) 256 256, nv, ev] 30 (0, 0)) := h.dbox2 hbd hvs hg
  have htu : Turn (fun g => g = Bd ∨ nv.ownBlock = some g) W (W2.setCell ⟨Bd, 1, none⟩ nv') := (((Turn.refl _ W).alloc o).grown hg (fun g e => .inr e)).setCell (.inl rfl) _
  have hsame : ∀ g, g < W.heap.size → g ≠ Bd → nv.ownBlock ≠ some g → (W2.setCell ⟨Bd, 1, none⟩ nv').heap[g]? = W.heap[g]? := fun g hg h3 h4 => htu.block g hg fun h5 => h5.elim h3 h4
  have hints : ∀ {u : Value} {xs : List Int}, OwnInts W Wl.heap.size u xs → OwnInts (W2.setCell ⟨Bd, 1, none⟩ nv') Wl.heap.size u xs := fun hu => own_blk hu fun g hg => hsame g (own_lt hu hg).2 (by have := (own_lt hu hg).1; omega) (own_apart hu hvs (by decide) g hg)
  have hrb : ∀ g, rv.ownBlock = some g → g ≠ Bd := fun g hg e => by
    rcases h.rvb g hg with e' | e'
    · exact h1 (e.symm.trans e')
    · omega
  refine ⟨h.turn.then htu fun g hg => ?_, three_set1 _ hd2, own_blk h.rws fun g hg => hsame g (own_lt h.rws hg).2 (hrb g hg) (own_apart3 h.rws hvs (by decide) g hg), h.rvb, h.keys.block (hsame M h.keys.lt (fun e => h2 e.symm) (h.keys.apart hvs)), ⟨⟨vs ++ [v], ?_, by simp [hlen], fun i u xs e1 e2 => ?_⟩, fun g hg hf => hf⟩, own_blk h.fins (fun g hg => hsame g (own_lt h.fins hg).2 (by have := (own_lt h.fins hg).1; omega) (own_apart h.fins hvs (by decide) g hg))⟩
  · rcases hg with rfl | hg
    · exact .inl (.inl rfl)
    · exact .inr (own_lt hvs hg).1
  · have := own_set (i := 1) (u := nv') hown hd2 (by decide)
    rw [List.length_append]
    exact this
  · rcases append_get e1 with e1 | ⟨rfl, rfl⟩
    · have hi := (List.getElem?_eq_some_iff.1 e1).1
      rw [List.getElem?_append_left (by omega)] at e2
      exact ⟨hints (hrows i u xs e1 e2).1, (hrows i u xs e1 e2).2⟩
    · rw [hlen, List.getElem?_append_right (Nat.le_refl _), Nat.sub_self] at e2
      cases e2
      exact ⟨hints hv, fun _ _ h => h⟩
theorem PBase.addFin {Wl W W2 : World} {Bd g0 M C : Nat} {rows : List Pr} {next : List (List Int)} {fin : List Bool} {rv nv ev ev' : Value} {o : Obj} {x : Bool} (h : PBase Wl Bd g0 M C W rows next fin rv nv ev) (hbd : Bd < Wl.heap.size) (h1 : Bd ≠ g0) (h2 : Bd ≠ M)
    (hown : W2.ownsRow Wl.heap.size 4 1 ev' (fin.length + 1) (fin.map Value.bool ++ [.bool x])) (hg : (W.alloc o).grownBy W2 ev.ownBlock) :
    PBase Wl Bd g0 M C (W2.setCell ⟨Bd, 2, none⟩ ev') rows next (fin ++ [x]) rv nv ev' := by
  have hws := h.turn.size
  have hvs := h.fins
  have hd2 : W2.heap[Bd]? = some (.cells #[.slice (some ⟨C, 0, none⟩) 256 256, nv, ev] 30 (0, 0)) := h.dbox2 hbd hvs hg
  have htu : Turn (fun g => g = Bd ∨ ev.ownBlock = some g) W (W2.setCell ⟨Bd, 2, none⟩ ev') := (((Turn.refl _ W).alloc o).grown hg (fun g e => .inr e)).setCell (.inl rfl) _
  have hsame : ∀ g, g < W.heap.size → g ≠ Bd → ev.ownBlock ≠ some g → (W2.setCell ⟨Bd, 2, none⟩ ev').heap[g]? = W.heap[g]? := fun g hg h3 h4 => htu.block g hg fun h5 => h5.elim h3 h4
  have hrb : ∀ g, rv.ownBlock = some g → g ≠ Bd := fun g hg e => by
    rcases h.rvb g hg with e' | e'
    · exact h1 (e.symm.trans e')
    · omega
  refine ⟨h.turn.then htu fun g hg => ?_, three_set2 _ hd2, own_blk h.rws fun g hg => hsame g (own_lt h.rws hg).2 (hrb g hg) (own_apart3 h.rws hvs (by decide) g hg), h.rvb, h.keys.block (hsame M h.keys.lt (fun e => h2 e.symm) (h.keys.apart hvs)), h.nxt.keep (fun g hl hg _ ht => hsame g hg (by omega) (fun e => ?_)) (fun _ _ h => h), ?_⟩
  · rcases hg with rfl | hg
    · exact .inl (.inl rfl)
    · exact .inr (own_lt hvs hg).1
  · obtain ⟨cur, hc⟩ := own_tag hvs e
    have := ht _ _ _ hc
    revert this; decide
  · have := own_set (i := 2) (u := ev') hown hd2 (by decide)
    unfold OwnBools
    rw [List.length_append, List.map_append]
    exact this
end Go.Proofs.YtfjomnhdmkbkiaaDoor.Im
