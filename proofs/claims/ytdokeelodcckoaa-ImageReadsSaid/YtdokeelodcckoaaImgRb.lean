/-
  Rows of structs that the call itself has laid: each struct's parts lie apart from the row's own block.
-/
import Derived.Test.YtdokeelodcckoaaImgI
import Derived.Test.YtdokeelodcckoaaImgV
namespace Go.Proofs.Ytdokeelodcckoaa.Im
open Go.RowKit Go.Lib

theorem Row.lt {α : Type} {F : Nat → Prop} {w : World} {R R' : Value → α → Prop} {v : Value} {l : List α} (h : Row F w R v l) (hR : ∀ c x, x ∈ l → R c x → R' c x) : Row (fun g => F g ∧ g < w.heap.size) w R' v l := by
  obtain ⟨ad, cap, h1, h2, h3⟩ := h
  refine ⟨ad, cap, h1, h2, fun hl => ?_⟩
  obtain ⟨g, off, h4, h5, h6⟩ := h3 hl
  refine ⟨g, off, h4, ⟨h5, ?_⟩, fun i hi => ?_⟩
  · obtain ⟨c, hc, _⟩ := h6 0 (List.length_pos_iff.2 hl)
    exact World.block_lt_of_cell? w _ hc
  · obtain ⟨c, hc, hr⟩ := h6 i hi
    exact ⟨c, hc, hR c _ (List.getElem_mem hi) hr⟩
theorem DfaIn.lt {F : Nat → Prop} {w : World} {a b c : Value} {d : Dfa} (h : DfaIn F w a b c d) : DfaIn (fun g => F g ∧ g < w.heap.size) w a b c d :=
  ⟨h.cls.lt fun _ _ _ h => h, h.next.lt fun _ _ _ h => h.lt fun _ _ _ h => h, h.fin.lt fun _ _ _ h => h⟩
theorem SqIn.lt {F : Nat → Prop} {w : World} {f a b c d : Value} {q : Sq} (h : SqIn F w f a b c d q) : SqIn (fun g => F g ∧ g < w.heap.size) w f a b c d q :=
  ⟨h.front, h.next.lt fun _ _ _ h => h.lt fun _ _ _ h => h, h.outs.lt fun _ _ _ h => h.lt fun _ _ _ h => h, h.fin.lt fun _ _ _ h => h, h.tail.lt fun _ _ _ h => h⟩
theorem RuleIn.lt {F : Nat → Prop} {w : World} {cs : List Value} {r : Rule} (h : RuleIn F w cs r) : RuleIn (fun g => F g ∧ g < w.heap.size) w cs r := by
  obtain ⟨a1, b1, c1, a2, b2, c2, a3, b3, c3, f, na, ou, fi, ta, h0, h1, h2, h3, h4⟩ := h.is
  exact ⟨⟨a1, b1, c1, a2, b2, c2, a3, b3, c3, f, na, ou, fi, ta, h0, h1.lt, h2.lt, h3.lt, h4.lt⟩⟩
theorem ClsR.lt {F : Nat → Prop} {w : World} {cs : List Value} {c : Cls} (h : ClsR F w cs c) : ClsR (fun g => F g ∧ g < w.heap.size) w cs c := by
  obtain ⟨x, p, y, q, z, s, h1, h2⟩ := h
  exact ⟨x, p, y, q, z, s, h1, h2.lt⟩
theorem RuleIn.len {F : Nat → Prop} {w : World} {cs : List Value} {r : Rule} (h : RuleIn F w cs r) : cs.length = 16 := by
  obtain ⟨a1, b1, c1, a2, b2, c2, a3, b3, c3, f, na, ou, fi, ta, h0, _⟩ := h.is
  rw [h0]; rfl
theorem ClsR.len {F : Nat → Prop} {w : World} {cs : List Value} {c : Cls} (h : ClsR F w cs c) : cs.length = 4 := by
  obtain ⟨x, p, y, q, z, s, h1, h2⟩ := h
  rw [h1]; rfl
/-- a reading that is kept where its blocks are -/
def Framed {α : Type} (R : (Nat → Prop) → World → List Value → α → Prop) : Prop :=
  ∀ (F F' : Nat → Prop) (w w' : World) (cs : List Value) (x : α), R F w cs x → (∀ g, F g → F' g) → (∀ g, F g → g < w.heap.size → w'.heap[g]? = w.heap[g]?) → R F' w' cs x
theorem framed_rule : Framed RuleIn := fun _ _ _ _ _ _ h hF hw => h.frame hF hw
theorem framed_cls : Framed ClsR := fun _ _ _ _ _ _ h hF hw => h.frame hF hw
/-- structs of k cells in a row of the call's own, their parts in other blocks from base on -/
def Agg {α : Type} (T k : Nat) (R : (Nat → Prop) → World → List Value → α → Prop) (w : World) (base : Nat) (v : Value) (l : List α) : Prop :=
  ∃ vs : List (List Value), vs.length = l.length ∧ (∀ cs ∈ vs, cs.length = k) ∧ w.ownsRow base T k v l.length vs.flatten ∧
    ∀ (i : Nat) (cs : List Value) (x : α), vs[i]? = some cs → l[i]? = some x → R (fun g => base ≤ g ∧ g < w.heap.size ∧ v.ownBlock ≠ some g) w cs x
section
variable {α : Type} {T k : Nat} {R : (Nat → Prop) → World → List Value → α → Prop}
theorem Agg.nil (w : World) (base : Nat) : Agg T k R w base (.slice none 0 0) [] := ⟨[], rfl, fun cs h => by simp at h, World.ownsRow_nil _ _ _ _, fun i cs x h => by simp at h⟩
theorem Agg.shape {w : World} {base : Nat} {v : Value} {l : List α} (h : Agg T k R w base v l) : ∃ ad cap, v = .slice ad l.length cap := by
  obtain ⟨vs, _, _, h, _⟩ := h
  rcases h.2 with ⟨h1, h2⟩ | ⟨g, cap, cur, h1, _⟩
  · exact ⟨none, 0, by rw [h1, h2]⟩
  · exact ⟨_, _, h1⟩
theorem Agg.keep {w w' : World} {base : Nat} {v : Value} {l : List α} (hR : Framed R) (h : Agg T k R w base v l) (hs : w.heap.size ≤ w'.heap.size) (hk : ∀ g, base ≤ g → g < w.heap.size → w'.heap[g]? = w.heap[g]?) : Agg T k R w' base v l := by
  obtain ⟨vs, h1, h2, h3, h4⟩ := h
  exact ⟨vs, h1, h2, own_blk h3 fun g hg => hk g (own_lt h3 hg).1 (own_lt h3 hg).2, fun i cs x e1 e2 => hR _ _ _ _ _ _ (h4 i cs x e1 e2) (fun g hg => ⟨hg.1, Nat.lt_of_lt_of_le hg.2.1 hs, hg.2.2⟩) (fun g hg hl => hk g hg.1 hl)⟩
theorem Agg.snoc {w w' : World} {base n g cap : Nat} {v : Value} {l : List α} {vs : List (List Value)} {cs : List Value} {x : α} (hR : Framed R) (e1 : vs.length = l.length) (e2 : ∀ cs ∈ vs, cs.length = k) (e3 : w.ownsRow base T k v l.length vs.flatten)
    (e4 : ∀ (i : Nat) (cs : List Value) (x : α), vs[i]? = some cs → l[i]? = some x → R (fun g => base ≤ g ∧ g < w.heap.size ∧ v.ownBlock ≠ some g) w cs x)
    (hx : R (fun g => n ≤ g) w cs x) (hlt : R (fun g => n ≤ g) w cs x → R (fun g => n ≤ g ∧ g < w.heap.size) w cs x) (hl : cs.length = k) (hb : base ≤ n) (hv : ∀ q, v.ownBlock = some q → q < n)
    (hown : w'.ownsRow base T k (.slice (some ⟨g, 0, none⟩) (l.length + 1) cap) (l.length + 1) (vs.flatten ++ cs)) (hg : w.grownBy w' v.ownBlock) (hat : v.ownBlock = some g ∨ g = w.heap.size) :
    Agg T k R w' base (.slice (some ⟨g, 0, none⟩) (l.length + 1) cap) (l ++ [x]) := by
  have hno : ∀ q, base ≤ q ∧ q < w.heap.size ∧ v.ownBlock ≠ some q → base ≤ q ∧ q < w'.heap.size ∧ (Value.slice (some ⟨g, 0, none⟩) (l.length + 1) cap).ownBlock ≠ some q := by
    rintro q ⟨h1, h2, h3⟩
    refine ⟨h1, Nat.lt_of_lt_of_le h2 hg.size, fun e => ?_⟩
    have e' : g = q := by simpa [Value.ownBlock] using e
    subst e'
    rcases hat with h | h
    · exact h3 h
    · omega
  have hkeep : ∀ q, base ≤ q ∧ q < w.heap.size ∧ v.ownBlock ≠ some q → q < w.heap.size → w'.heap[q]? = w.heap[q]? := fun q hq hl => hg.block q hl fun e => hq.2.2 e.symm
  refine ⟨vs ++ [cs], by simp [e1], ?_, by simpa using hown, ?_⟩
  · intro c hc
    rcases List.mem_append.1 hc with h | h
    · exact e2 c h
    · rw [List.mem_singleton.1 h]; exact hl
  · intro i c y h1 h2
    by_cases hi : i < vs.length
    · rw [List.getElem?_append_left hi] at h1
      rw [List.getElem?_append_left (by omega)] at h2
      exact hR _ _ _ _ _ _ (e4 i c y h1 h2) hno hkeep
    · rw [List.getElem?_append_right (by omega)] at h1
      rw [List.getElem?_append_right (by omega)] at h2
      obtain ⟨_, rfl⟩ := List.getElem?_eq_some_iff.1 h1
      obtain ⟨_, rfl⟩ := List.getElem?_eq_some_iff.1 h2
      simp only [List.getElem_singleton]
      have hin : ∀ q, n ≤ q ∧ q < w.heap.size → base ≤ q ∧ q < w.heap.size ∧ v.ownBlock ≠ some q := fun q hq => ⟨by omega, hq.2, fun e => by have := hv q e; omega⟩
      exact hR _ _ _ _ _ _ (hlt hx) (fun q hq => hno q (hin q hq)) (fun q hq hl => hkeep q (hin q hq) hl)
theorem flatten_getElem? {β : Type} {k : Nat} : ∀ (vs : List (List β)) (h : ∀ cs ∈ vs, cs.length = k) (i j : Nat) (cs : List β), vs[i]? = some cs → j < k → vs.flatten[i * k + j]? = cs[j]?
  | [], _, i, j, cs, h, _ => by simp at h
  | c :: vs, h, 0, j, cs, h1, hj => by
    simp only [List.getElem?_cons_zero, Option.some.injEq] at h1
    subst h1
    have := h c (List.mem_cons_self ..)
    rw [List.flatten_cons, Nat.zero_mul, Nat.zero_add, List.getElem?_append_left (by omega)]
  | c :: vs, h, i + 1, j, cs, h1, hj => by
    have hc := h c (List.mem_cons_self ..)
    rw [List.getElem?_cons_succ] at h1
    rw [List.flatten_cons, List.getElem?_append_right (by rw [hc, Nat.add_mul]; omega), hc, show (i + 1) * k + j - k = i * k + j by rw [Nat.add_mul]; omega]
    exact flatten_getElem? vs (fun cs hcs => h cs (List.mem_cons_of_mem _ hcs)) i j cs h1 hj
theorem Agg.row {w : World} {base : Nat} {v : Value} {l : List α} (hR : Framed R) (h : Agg T k R w base v l) : RowK k (fun g => base ≤ g ∧ g < w.heap.size) w (R (fun g => base ≤ g ∧ g < w.heap.size) w) v l := by
  obtain ⟨vs, h1, h2, h3, h4⟩ := h
  rcases h3.2 with ⟨e, e0⟩ | ⟨g, cap, cur, e, hb, hg, hn, hc, hs, ht⟩
  · exact ⟨none, 0, by rw [e, e0], by rw [e0]; exact Nat.zero_le _, fun hl => absurd (List.length_eq_zero_iff.1 e0) hl⟩
  · refine ⟨some ⟨g, 0, none⟩, cap, e, Nat.le_trans hn hc, fun _ => ⟨g, 0, rfl, ⟨hb, lt_of_heap hg⟩, fun i hi => ?_⟩⟩
    have hi2 : i < vs.length := by omega
    refine ⟨vs[i], h2 _ (List.getElem_mem hi2), fun j c hj => ?_, ?_⟩
    · have hjk : j < k := by
        have := (List.getElem?_eq_some_iff.1 hj).1
        rwa [h2 _ (List.getElem_mem hi2)] at this
      have := flatten_getElem? vs h2 i j _ (List.getElem?_eq_getElem hi2) hjk
      rw [hj, ← ht] at this
      rw [Nat.zero_add]
      obtain ⟨hlt, hget⟩ := List.getElem?_eq_some_iff.1 this
      rw [cell_of_row _ _ _ _ _ _ hg]
      rw [List.getElem_take] at hget
      rw [← Array.getElem?_toList]
      exact List.getElem?_eq_some_iff.2 ⟨by simp at hlt ⊢; omega, hget⟩
    · exact hR _ _ _ _ _ _ (h4 i _ _ (List.getElem?_eq_getElem hi2) (List.getElem?_eq_getElem hi)) (fun q hq => ⟨hq.1, hq.2.1⟩) (fun _ _ _ => rfl)
end
end Go.Proofs.Ytdokeelodcckoaa.Im
