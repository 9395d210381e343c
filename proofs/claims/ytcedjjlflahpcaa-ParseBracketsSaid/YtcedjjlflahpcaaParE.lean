/-
  A slice of expressions in memory; the contract of joined.
-/
import Derived.Test.YtcedjjlflahpcaaParD
namespace Go.Proofs.Ytcedjjlflahpcaa
open Go.RowKit Go.Lib

/-- a slice of expressions of the call's own: what its elements hold lies in other blocks than it does -/
structure Rs (base : Nat) (w : World) (l : List Re) (v : Value) : Prop where
  own : ∃ xs, w.ownsRow base 27 9 v l.length xs ∧ PartsIn (fun g => base ≤ g ∧ some g ≠ v.ownBlock) w l xs
theorem Rs.kept {bp base : Nat} {w w' : World} {l : List Re} {v : Value} (h : Rs base w l v) (hk : Kept bp w w') (hb : bp < base) : Rs base w' l v := by
  obtain ⟨xs, h1, h3⟩ := h.own
  exact ⟨xs, ownsRow_same h1 (fun g hg => own_block h1 hg) (fun g hg hl => hk.block g hl (fun e => by have := Option.some.inj e; have := own_block h1 hg; omega)),
    h3.frame (fun _ hg _ => hg) (fun g hg hl => hk.block g hl (fun e => by have := Option.some.inj e; have := hg.1; omega))⟩
theorem Rs.shape {base : Nat} {w : World} {l : List Re} {v : Value} (h : Rs base w l v) : ∃ ad cap, v = .slice ad l.length cap := by
  obtain ⟨xs, h1, h3⟩ := h.own
  exact own_shape h1
theorem Rs.node {base : Nat} {w : World} {l : List Re} {ad : Option Addr} {cap : Nat} (h : Rs base w l (.slice ad l.length cap)) (k : Int) (x : List B) (s : Se) (mn mx : Int) : ReAt base w (.mk k x s l mn mx) (reC k x s (.slice ad l.length cap) mn mx) := by
  obtain ⟨xs, h1, h3⟩ := h.own
  unfold ReAt ReIn
  exact ⟨ad, cap, xs, rfl, ownsRow_same h1 (fun _ _ => Nat.zero_le _) (fun _ _ _ => rfl), fun g hg => own_block h1 hg, h3.frame (fun _ hg _ => hg.1) (fun _ _ _ => rfl)⟩
theorem ReIn.cells {F : Nat → Prop} {w : World} {r : Re} {cs : Array Value} (h : ReIn F w r cs) : ∃ k x s ad n cap mn mx, cs = reC k x s (.slice ad n cap) mn mx := by
  obtain ⟨k, x, s, ps, mn, mx⟩ := r
  unfold ReIn at h
  obtain ⟨ad, cap, xs, rfl, _⟩ := h
  exact ⟨k, x, s, ad, _, cap, mn, mx, rfl⟩
/-- behind an append of one expression more -/
theorem Rs.snoc {base low g cap : Nat} {w w' : World} {l : List Re} {r : Re} {v : Value} {xs : List Value} {cs : Array Value}
    (ho : w'.ownsRow base 27 9 (.slice (some ⟨g, 0, none⟩) (l.length + 1) cap) (l.length + 1) (xs ++ cs.toList)) (hp : PartsIn (fun g => base ≤ g ∧ some g ≠ v.ownBlock) w l xs)
    (hr : ReAt low w r cs) (hlow : ∀ g, v.ownBlock = some g → g < low) (hb : base ≤ low) (hg : w.grownBy w' v.ownBlock) (hat : v.ownBlock = some g ∨ g = w.heap.size) :
    Rs base w' (l ++ [r]) (.slice (some ⟨g, 0, none⟩) (l ++ [r]).length cap) := by
  have hlen : (l ++ [r]).length = l.length + 1 := by simp
  rw [hlen]
  refine ⟨⟨xs ++ cs.toList, by rw [hlen]; exact ho, PartsIn.snoc (hp.frame (fun g' hg' hl => ⟨hg'.1, ?_⟩) (fun g' hg' hl => hg.block g' hl hg'.2)) (hr.frame (fun g' hg' hl => ⟨Nat.le_trans hb hg', ?_⟩) (fun g' hg' hl => hg.block g' hl (fun e => by have := hlow g' e.symm; omega)))⟩⟩
  · rcases hat with hat | rfl
    · rw [hat] at hg'; exact hg'.2
    · intro e; have := Option.some.inj e; simp at this; omega
  · rcases hat with hat | rfl
    · intro e
      have h1 := Option.some.inj e
      have h2 := hlow g hat
      simp at h1
      omega
    · intro e; have := Option.some.inj e; simp at this; omega

set_option maxRecDepth 100000 in
set_option maxHeartbeats 1000000 in
theorem joined_any {base : Nat} {w : World} {l : List Re} {ad : Option Addr} {cap : Nat} (h : Rs base w l (.slice ad l.length cap)) (k : Int) :
    Calls Try.prog 34 #[.int .i64 k, .slice ad l.length cap] w fun e w' => Below w.heap.size w w' ∧ ∃ cs, e = .returned (.agg cs) ∧ ReAt base w' (joinedM k l) cs := by
  by_cases h1 : l.length = 1
  · obtain ⟨r, rfl⟩ : ∃ r, l = [r] := List.length_eq_one_iff.1 h1
    obtain ⟨xs, ho, hp⟩ := h.own
    unfold PartsIn PartsIn at hp
    obtain ⟨cs, rest, rfl, hr, rfl⟩ := hp
    obtain ⟨kk, x, s, ad2, n, cap2, mn, mx, rfl⟩ := hr.cells
    obtain ⟨g, cap', cur, hv, hbg, hgg, hn, hm, hsz, htk⟩ := ho.2.resolve_left (by rintro ⟨_, h2⟩; simp at h2)
    have hc := ho.cells (g := g) (by rw [hv]; rfl)
    cases hv
    have k0 : w.cell? ⟨g, 0, none⟩ = some (.int .i64 kk) := hc 0 _ rfl
    have k1 : w.cell? ⟨g, 1, none⟩ = some (.string ⟨x.toArray⟩) := hc 1 _ rfl
    have k2 : w.cell? ⟨g, 2, none⟩ = some (.int .u64 s.a) := hc 2 _ rfl
    have k3 : w.cell? ⟨g, 3, none⟩ = some (.int .u64 s.b) := hc 3 _ rfl
    have k4 : w.cell? ⟨g, 4, none⟩ = some (.int .u64 s.c) := hc 4 _ rfl
    have k5 : w.cell? ⟨g, 5, none⟩ = some (.int .u64 s.d) := hc 5 _ rfl
    have k6 : w.cell? ⟨g, 6, none⟩ = some (.slice ad2 n cap2) := hc 6 _ rfl
    have k7 : w.cell? ⟨g, 7, none⟩ = some (.int .i64 mn) := hc 7 _ rfl
    have k8 : w.cell? ⟨g, 8, none⟩ = some (.int .i64 mx) := hc 8 _ rfl
    have hgl : g < w.heap.size := (Array.getElem?_eq_some_iff.1 hgg).1
    clear hc ho h
    go_enter Try.func34, Try.ntmps34
    go_wp2
    refine bodyPost_ret (v := .agg (reC kk x s (.slice ad2 n cap2) mn mx)) (by simp [results, Try.results34, go_sem]) rfl ⟨(Below.refl _ _).alloc (Nat.le_refl _) _, _, rfl, ?_⟩
    exact hr.frame (fun _ hg _ => hg.1) (fun g _ hg => alloc_old hg)
  · have h1' : ((l.length : Int) == 1) = false := by rw [beq_eq_false_iff_ne]; omega
    have hj : joinedM k l = .mk k [] Se.none l 0 0 := by
      unfold joinedM
      split
      · exact absurd rfl h1
      · rfl
    clear h1
    go_enter Try.func34, Try.ntmps34
    go_wp2
    refine bodyPost_ret (v := .agg (reC k [] Se.none (.slice ad l.length cap) 0 0)) (by simp [results, Try.results34, go_sem, Se.none]) rfl ⟨(Below.refl _ _).alloc (Nat.le_refl _) _, _, rfl, ?_⟩
    rw [hj]
    exact (h.node k [] Se.none 0 0).frame (fun _ hg _ => hg) (fun g _ hg => alloc_old hg)

/-- the contract of a function of the parser that hands back an expression -/
def Parses (T : List Tok) (f : FuncId) (D : Nat → Prop) (M : Nat → Nat → R) : Prop :=
  ∀ (bp bt cap a dep : Nat) (w : World), D dep → Pz T bp bt cap a dep w → Calls Try.prog f #[.pointer (some ⟨bp, 0, none⟩)] w (RePost T bp bt cap a dep w (M a dep))
theorem wpList_load_blk {P : Program} {ops : Array Oper} {rest : List Oper} {o : Oper} {a : Act} {w : World} {Q : Exit → Act → World → Prop} (hgd : o.guard = none) (ty : TypeId) (x : Operand) (ho : o.op = .load ty x)
    (n : Nat) (hi : (P.info? ty).map (·.size) = some n) (d : TypeDesc) (hu : P.underlying ty = some d) (hd : (match d with | .struct _ | .array _ _ => true | _ => false) = true)
    (g : Nat) (hx : a.eval x = .pointer (some ⟨g, 0, none⟩)) (t : TypeId) (cs : Array Value) (hg : w.heap[g]? = some (.cells cs t (0, 0))) (hn : cs.size = n)
    (h : wpList P ops Q rest (a.put o.dst (.agg cs)) w) : wpList P ops Q (o :: rest) a w := by
  subst hn
  exact wpList_load_row hgd ty x ho g hx t cs (0, 0) d hg hu hd hi h
theorem Rs.single {base : Nat} {w : World} {r : Re} {k : Int} {x : List B} {s : Se} {v : Value} {mn mx : Int} (h : ReAt base w r (reC k x s v mn mx)) (hb : base ≤ w.heap.size) : Rs base (w.alloc (.cells (reC k x s v mn mx) 27)) [r] (.slice (some ⟨w.heap.size, 0, none⟩) [r].length 1) where
  own := ⟨(reC k x s v mn mx).toList, ⟨rfl, .inr ⟨w.heap.size, 1, _, rfl, hb, heap_alloc_new _ _, Nat.le_refl _, by unfold maxLen; omega, rfl, rfl⟩⟩, by
    unfold PartsIn PartsIn
    exact ⟨_, [], by simp, h.frame (fun g hg hl => ⟨hg, fun e => by have := Option.some.inj e; simp at this; omega⟩) (fun g _ hg => alloc_old hg), rfl⟩⟩
theorem often_next {T : List Tok} {a : Nat} (h : (oftenM T a).ok = false) : (oftenM T a).next = a := by
  unfold oftenM at h ⊢
  simp only at h ⊢
  split
  · rw [if_pos ‹_›] at h; cases h
  · rw [if_neg ‹_›] at h
    split
    · rw [if_pos ‹_›] at h; cases h
    · rw [if_neg ‹_›] at h
      split
      · rw [if_pos ‹_›] at h; cases h
      · rfl
theorem often_le {T : List Tok} {a : Nat} : a ≤ (oftenM T a).next := by
  unfold oftenM
  simp only
  split
  · simp
  · split
    · simp
    · split <;> simp
end Go.Proofs.Ytcedjjlflahpcaa
