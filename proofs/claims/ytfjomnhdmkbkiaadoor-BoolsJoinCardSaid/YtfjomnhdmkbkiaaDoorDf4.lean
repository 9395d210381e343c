/-
  The parts of the bytes by some sets, and of each byte the number of its part: the laws. No program in sight.
-/
import Derived.Test.YtfjomnhdmkbkiaaDoorDf3
namespace Go.Proofs.YtfjomnhdmkbkiaaDoor.Im

/-- the least byte of a set, found -/
theorem firstFrom_at (s : Se) (y : Nat) (hy : hasS s y = true) : ∀ (k b : Nat), b ≤ y → y < b + k → (∀ x, b ≤ x → x < y → hasS s x = false) → firstFrom s k b = some y
  | 0, b, h1, h2, _ => by omega
  | k + 1, b, h1, h2, h => by
    unfold firstFrom
    by_cases e : b = y
    · subst e; rw [if_pos hy]
    · have hb := h b (Nat.le_refl _) (by omega)
      rw [hb]
      exact firstFrom_at s y hy k (b + 1) (by omega) (by omega) fun x h3 h4 => h x (by omega) h4
theorem firstFrom_no (s : Se) : ∀ (k b : Nat), firstFrom s k b = none → ∀ x, b ≤ x → x < b + k → hasS s x = false
  | 0, b, _, x, h1, h2 => by omega
  | k + 1, b, h, x, h1, h2 => by
    unfold firstFrom at h
    split at h
    · cases h
    · rename_i hb
      by_cases e : b = x
      · subst e; simpa using hb
      · exact firstFrom_no s k (b + 1) h x (by omega) (by omega)
/-- the parts of the bytes below b -/
structure PartAt (l : List Se) (b : Nat) (ks : List (List B)) (p : List Se) (fs : List Nat) : Prop where
  key : ks = fs.map (keyM l)
  len : p.length = fs.length
  up : fs.Pairwise (· < ·)
  lt : ∀ x ∈ fs, x < b
  least : ∀ y ∈ fs, ∀ x, x < y → keyM l x ≠ keyM l y
  all : ∀ x, x < b → keyM l x ∈ ks
  ok : ∀ s ∈ p, s.ok
  has : ∀ i (h : i < fs.length), ∀ x, x < 256 → hasS (p.getD i Se.none) x = decide (x < b ∧ keyM l x = keyM l fs[i])
theorem PartAt.start (l : List Se) : PartAt l 0 [] [] [] :=
  ⟨rfl, rfl, by simp, by simp, by simp, fun x h => by omega, by simp, fun i h => by simp at h⟩
theorem PartAt.nodup {l : List Se} {b : Nat} {ks : List (List B)} {p : List Se} {fs : List Nat} (h : PartAt l b ks p fs) {i j : Nat} (hi : i < fs.length) (hj : j < fs.length) (e : keyM l fs[i] = keyM l fs[j]) : i = j := by
  rcases Nat.lt_trichotomy i j with hl | hl | hl
  · have := (List.pairwise_iff_getElem.1 h.up) i j hi hj hl
    exact absurd e (h.least _ (List.getElem_mem hj) _ this)
  · exact hl
  · have := (List.pairwise_iff_getElem.1 h.up) j i hj hi hl
    exact absurd e.symm (h.least _ (List.getElem_mem hi) _ this)
theorem PartAt.idx {l : List Se} {b : Nat} {ks : List (List B)} {p : List Se} {fs : List Nat} (h : PartAt l b ks p fs) {k : List B} (hk : k ∈ ks) : ∃ (hi : ks.idxOf k < fs.length), keyM l fs[ks.idxOf k] = k := by
  have h1 := List.idxOf_lt_length_of_mem hk
  have h2 := List.getElem_idxOf h1
  have hl : ks.length = fs.length := by rw [h.key, List.length_map]
  refine ⟨by omega, ?_⟩
  have h3 : ks[ks.idxOf k]'h1 = keyM l (fs[ks.idxOf k]'(by omega)) := by
    have : ∀ (ks : List (List B)) (i : Nat) (hi : i < ks.length) (e : ks = fs.map (keyM l)), ks[i] = keyM l (fs[i]'(by rw [e] at hi; simpa using hi)) := by
      intro ks i hi e
      subst e
      simp
    exact this ks _ h1 h.key
  rw [← h3, h2]
theorem PartAt.step {l : List Se} {b : Nat} {ks : List (List B)} {p : List Se} {fs : List Nat} (h : PartAt l b ks p fs) (hb : b < 256) :
    ∃ fs', PartAt l (b + 1) (partStep l b ks p).1 (partStep l b ks p).2 fs' := by
  unfold partStep
  by_cases hk : keyM l b ∈ ks
  · rw [if_pos hk]
    obtain ⟨hi, he⟩ := h.idx hk
    have hpl := h.len
    generalize ks.idxOf (keyM l b) = n at hi he
    have hmem : p.getD n Se.none ∈ p := by rw [List.getD_eq_getElem?_getD, List.getElem?_eq_getElem (by omega)]; exact List.getElem_mem _
    have hokn := h.ok _ hmem
    refine ⟨fs, h.key, by simp [h.len], h.up, fun x hx => by have := h.lt x hx; omega, h.least, fun x hx => ?_, fun s hs => ?_, fun i hil x hx => ?_⟩
    · by_cases e : x = b
      · subst e; exact hk
      · exact h.all x (by omega)
    · rcases List.mem_or_eq_of_mem_set hs with hs | rfl
      · exact h.ok s hs
      · exact hokn.any (Se.ok_one b)
    · by_cases e : i = n
      · subst e
        rw [List.getD_eq_getElem?_getD, List.getElem?_set_self (by omega)]
        show hasS (anyS _ _) x = _
        rw [has_any hokn (Se.ok_one b), has_one hb hx, h.has i hil x hx, ← Bool.decide_or]
        refine decide_eq_decide.2 ⟨?_, ?_⟩
        · rintro (⟨h1, h2⟩ | rfl)
          · exact ⟨by omega, h2⟩
          · exact ⟨by omega, he.symm⟩
        · rintro ⟨h1, h2⟩
          by_cases e : x = b
          · exact .inr e
          · exact .inl ⟨by omega, h2⟩
      · rw [List.getD_eq_getElem?_getD, List.getElem?_set_ne (fun c => e c.symm), ← List.getD_eq_getElem?_getD, h.has i hil x hx]
        refine decide_eq_decide.2 ⟨fun ⟨h1, h2⟩ => ⟨by omega, h2⟩, fun ⟨h1, h2⟩ => ⟨?_, h2⟩⟩
        rcases Nat.lt_or_ge x b with hx' | hx'
        · exact hx'
        · have : x = b := by omega
          subst this
          exact absurd (h.nodup hil hi (h2.symm.trans he.symm)) e
  · rw [if_neg hk]
    have hnew : ∀ x, x < b → keyM l x ≠ keyM l b := fun x hx c => hk (c ▸ h.all x hx)
    refine ⟨fs ++ [b], by rw [h.key]; simp, by simp [h.len], ?_, ?_, ?_, ?_, ?_, ?_⟩
    · refine List.pairwise_append.2 ⟨h.up, by simp, fun a ha c hc => ?_⟩
      obtain rfl := List.mem_singleton.1 hc
      exact h.lt a ha
    · intro x hx
      rcases List.mem_append.1 hx with hx | hx
      · have := h.lt x hx; omega
      · have := List.mem_singleton.1 hx; omega
    · intro y hy
      rcases List.mem_append.1 hy with hy | hy
      · exact h.least y hy
      · obtain rfl := List.mem_singleton.1 hy
        exact hnew
    · intro x hx
      by_cases e : x = b
      · subst e; simp
      · exact List.mem_append_left _ (h.all x (by omega))
    · intro s hs
      rcases List.mem_append.1 hs with hs | hs
      · exact h.ok s hs
      · obtain rfl := List.mem_singleton.1 hs
        exact Se.ok_none.any (Se.ok_one b)
    · intro i hil x hx
      rw [List.length_append, List.length_singleton] at hil
      have hpl := h.len
      by_cases e : i < fs.length
      · rw [List.getD_eq_getElem?_getD, List.getElem?_append_left (by omega), ← List.getD_eq_getElem?_getD, h.has i e x hx]
        have e2 : (fs ++ [b])[i]'(by simp; omega) = fs[i] := List.getElem_append_left e
        rw [e2]
        refine decide_eq_decide.2 ⟨fun ⟨h1, h2⟩ => ⟨by omega, h2⟩, fun ⟨h1, h2⟩ => ⟨?_, h2⟩⟩
        rcases Nat.lt_or_ge x b with hx' | hx'
        · exact hx'
        · have : x = b := by omega
          subst this
          exact absurd h2.symm (hnew _ (h.lt _ (List.getElem_mem e)))
      · have hi : i = fs.length := by omega
        subst hi
        have e2 : (fs ++ [b])[fs.length]'(by simp) = b := by simp
        rw [List.getD_eq_getElem?_getD, List.getElem?_append_right (by omega), e2]
        have e3 : fs.length - p.length = 0 := by omega
        rw [e3]
        show hasS (anyS _ _) x = _
        rw [has_any Se.ok_none (Se.ok_one b), has_one hb hx, has_none, Bool.false_or]
        refine decide_eq_decide.2 ⟨?_, ?_⟩
        · rintro rfl; exact ⟨by omega, rfl⟩
        · rintro ⟨h1, h2⟩
          rcases Nat.lt_or_ge x b with hx' | hx'
          · exact absurd h2 (hnew x hx')
          · omega
theorem partFrom_at (l : List Se) : ∀ (k b : Nat) (ks : List (List B)) (p : List Se) (fs : List Nat), PartAt l b ks p fs → b + k = 256 → ∃ ks' fs', PartAt l 256 ks' (partFrom l k b ks p) fs'
  | 0, b, ks, p, fs, h, e => by
    have : b = 256 := by omega
    subst this
    exact ⟨ks, fs, h⟩
  | k + 1, b, ks, p, fs, h, e => by
    obtain ⟨fs', h'⟩ := h.step (by omega)
    unfold partFrom
    exact partFrom_at l k (b + 1) _ _ fs' h' (by omega)
theorem markM_map (i : Int) (s : Se) (g : Nat → Int) : ∀ (n b : Nat), (∀ x, b ≤ x → x < b + n → hasS s x = true → g x < 0) →
    markM i s b ((List.range' b n).map g) = some ((List.range' b n).map fun x => if hasS s x then i else g x)
  | 0, _, _ => rfl
  | n + 1, b, h => by
    rw [List.range'_succ, List.map_cons, List.map_cons]
    have ih := markM_map i s g n (b + 1) (fun x h1 h2 h3 => h x (by omega) (by omega) h3)
    unfold markM
    split
    · rename_i hb
      rw [if_neg (by have := h b (Nat.le_refl _) (by omega) hb; omega), ih]; rfl
    · rw [ih]; rfl
/-- of each byte the number of its part -/
def clsOf (l : List Se) (ks : List (List B)) : List Int := (List.range' 0 256).map fun x => (ks.idxOf (keyM l x) : Int)
theorem classFrom_at {l : List Se} {ks : List (List B)} {p : List Se} {fs : List Nat} (h : PartAt l 256 ks p fs) : ∀ (m i : Nat) (last : Int), i + m = fs.length → (∀ (hi : i < fs.length), last < fs[i]) →
    classFrom i last ((List.range' 0 256).map fun x => if ks.idxOf (keyM l x) < i then (ks.idxOf (keyM l x) : Int) else -1) (p.drop i) = some (clsOf l ks)
  | 0, i, last, e, _ => by
    have hi : i = fs.length := by omega
    have hd : p.drop i = [] := List.drop_eq_nil_of_le (by have := h.len; omega)
    have he : ((List.range' 0 256).map fun x => if ks.idxOf (keyM l x) < i then (ks.idxOf (keyM l x) : Int) else -1) = clsOf l ks := by
      unfold clsOf
      refine List.map_congr_left fun x hx => ?_
      have hx' := List.mem_range'_1.1 hx
      obtain ⟨h1, _⟩ := h.idx (h.all x (by omega))
      rw [if_pos (by omega)]
    rw [hd, he]
    unfold classFrom
    rw [if_pos]
    rw [List.all_eq_true]
    intro c hc
    obtain ⟨x, _, rfl⟩ := List.mem_map.1 hc
    simp
  | m + 1, i, last, e, hlast => by
    have hi : i < fs.length := by omega
    have hip : i < p.length := by have := h.len; omega
    have hD : p.getD i Se.none = p[i] := by rw [List.getD_eq_getElem?_getD, List.getElem?_eq_getElem hip]; rfl
    have hhas := h.has i hi
    rw [hD] at hhas
    have hf := h.lt _ (List.getElem_mem hi)
    have h1 : firstS p[i] = some fs[i] := by
      refine firstFrom_at _ _ ?_ 256 0 (Nat.zero_le _) (by omega) fun x _ hx => ?_
      · rw [hhas _ hf]; simp [hf]
      · rw [hhas _ (by omega)]
        exact decide_eq_false fun c => h.least _ (List.getElem_mem hi) x hx c.2
    rw [List.drop_eq_getElem_cons hip]
    unfold classFrom
    rw [h1]
    have hidx : ∀ x, x < 256 → (hasS p[i] x = true ↔ ks.idxOf (keyM l x) = i) := by
      intro x hx
      rw [hhas x hx, decide_eq_true_eq]
      obtain ⟨g1, g2⟩ := h.idx (h.all x hx)
      constructor
      · rintro ⟨_, h2⟩
        exact h.nodup g1 hi (g2.trans h2)
      · intro h2
        refine ⟨hx, ?_⟩
        subst h2
        exact g2.symm
    have hm := markM_map (i : Int) p[i] (fun x => if ks.idxOf (keyM l x) < i then (ks.idxOf (keyM l x) : Int) else -1) 256 0 (fun x _ hx hs => by
      have := (hidx x (by omega)).1 hs
      rw [if_neg (by omega)]; decide)
    have hl := hlast hi
    show (if (fs[i] : Int) ≤ last then none else _) = _
    rw [if_neg (by omega), hm]
    have he : ((List.range' 0 256).map fun x => if hasS p[i] x then (i : Int) else if ks.idxOf (keyM l x) < i then (ks.idxOf (keyM l x) : Int) else -1) = ((List.range' 0 256).map fun x => if ks.idxOf (keyM l x) < i + 1 then (ks.idxOf (keyM l x) : Int) else -1) := by
      refine List.map_congr_left fun x hx => ?_
      have hx' := List.mem_range'_1.1 hx
      by_cases hs : hasS p[i] x = true
      · have := (hidx x (by omega)).1 hs
        rw [if_pos hs, if_pos (by omega), this]
      · rw [if_neg hs]
        have hne : ks.idxOf (keyM l x) ≠ i := fun c => hs ((hidx x (by omega)).2 c)
        by_cases hlt : ks.idxOf (keyM l x) < i
        · rw [if_pos hlt, if_pos (by omega)]
        · rw [if_neg hlt, if_neg (by omega)]
    rw [he]
    exact classFrom_at h m (i + 1) fs[i] (by omega) fun hi' => by
      have := (List.pairwise_iff_getElem.1 h.up) i (i + 1) hi hi' (by omega)
      omega
theorem replicate_map : ∀ (n b : Nat) (z : Int), List.replicate n z = (List.range' b n).map fun _ => z
  | 0, _, _ => rfl
  | n + 1, b, z => by rw [List.range'_succ, List.map_cons, List.replicate_succ, replicate_map n (b + 1) z]
/-- the parts of some sets: each byte is in the part of its key, and of a part the least byte is known -/
theorem parts_law (l : List Se) (h : l.length ≤ 1024) : ∃ ks p fs, partsM l = .ok p ∧ PartAt l 256 ks p fs ∧ classM p = some (clsOf l ks) := by
  obtain ⟨ks, fs, hp⟩ := partFrom_at l 256 0 [] [] [] (PartAt.start l) rfl
  refine ⟨ks, _, fs, by unfold partsM; rw [if_neg (by omega)], hp, ?_⟩
  have := classFrom_at hp fs.length 0 (-1) (by omega) (fun hi => by omega)
  unfold classM
  rw [replicate_map 256 0 (-1)]
  rw [List.drop_zero] at this
  simpa using this
end Go.Proofs.YtfjomnhdmkbkiaaDoor.Im
