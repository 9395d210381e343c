/-
  A map in memory, and a slice of maps; the contract of mapRow.
-/
import Derived.Test.YtfljcfdfgojdoaaGreatDoorSb12
namespace Go.Proofs.YtfljcfdfgojdoaaGreatDoor
open Go.RowKit Go.Lib

/-- the fourteen cells of a map -/
abbrev mpC (k rk : Int) (rx : List B) (rs : Se) (rv : Value) (rn rm : Int) (o : List B) (v : Value) (mn mx : Int) : Array Value :=
  #[.int .i64 k, .int .i64 rk, .string ⟨rx.toArray⟩, .int .u64 rs.a, .int .u64 rs.b, .int .u64 rs.c, .int .u64 rs.d, rv, .int .i64 rn, .int .i64 rm, .string ⟨o.toArray⟩, v, .int .i64 mn, .int .i64 mx]
abbrev mpZ : Array Value := #[.int .i64 0, .int .i64 0, .string ⟨#[]⟩, .int .u64 0, .int .u64 0, .int .u64 0, .int .u64 0, .slice none 0 0, .int .i64 0, .int .i64 0, .string ⟨#[]⟩, .slice none 0 0, .int .i64 0, .int .i64 0]
theorem info44 : (Tryz.prog.info? 36).map (·.size) = some 14 := by kernel_rfl
theorem info44' : (Tryz.prog.info? 36).map (fun i => (i.zero, i.size, i.bytes)) = some (some (.agg mpZ), 14, 160) := by kernel_rfl
mutual
/-- fourteen cells read as a map, whose parts lie in blocks that F holds of -/
def MpIn (F : Nat → Prop) (w : World) : Mp → Array Value → Prop
  | .mk k r o ps mn mx, cs => ∃ rk rx rs rv rn rm ad cap xs, cs = mpC k rk rx rs rv rn rm o (.slice ad ps.length cap) mn mx ∧ ReIn F w r (reC rk rx rs rv rn rm) ∧ w.ownsRow 0 36 14 (.slice ad ps.length cap) ps.length xs ∧ (∀ g, (Value.slice ad ps.length cap).ownBlock = some g → F g) ∧ MpsIn F w ps xs
def MpsIn (F : Nat → Prop) (w : World) : List Mp → List Value → Prop
  | [], xs => xs = []
  | r :: rs, xs => ∃ cs rest, xs = cs.toList ++ rest ∧ MpIn F w r cs ∧ MpsIn F w rs rest
end
abbrev MpAt (base : Nat) : World → Mp → Array Value → Prop := MpIn fun g => base ≤ g
mutual
theorem MpIn.frame {F F' : Nat → Prop} {w w' : World} (hF : ∀ g, F g → g < w.heap.size → F' g) (hf : ∀ g, F g → g < w.heap.size → w'.heap[g]? = w.heap[g]?) : ∀ {r : Mp} {cs : Array Value}, MpIn F w r cs → MpIn F' w' r cs
  | .mk k r o ps mn mx, cs, h => by
    unfold MpIn at h ⊢
    obtain ⟨rk, rx, rs, rv, rn, rm, ad, cap, xs, h1, h0, h2, h3, h4⟩ := h
    refine ⟨rk, rx, rs, rv, rn, rm, ad, cap, xs, h1, h0.frame hF hf, ownsRow_same h2 (fun _ _ => Nat.zero_le _) (fun g hg hl => hf g (h3 g hg) hl), fun g hg => ?_, MpsIn.frame hF hf h4⟩
    rcases h2.2 with ⟨hv, _⟩ | ⟨g', cap', cur, hv, _, hgg, _⟩
    · rw [hv] at hg; simp [Value.ownBlock] at hg
    · have hg0 := hg
      rw [hv] at hg
      simp [Value.ownBlock] at hg
      subst hg
      exact hF _ (h3 _ hg0) (Array.getElem?_eq_some_iff.1 hgg).1
theorem MpsIn.frame {F F' : Nat → Prop} {w w' : World} (hF : ∀ g, F g → g < w.heap.size → F' g) (hf : ∀ g, F g → g < w.heap.size → w'.heap[g]? = w.heap[g]?) : ∀ {l : List Mp} {xs : List Value}, MpsIn F w l xs → MpsIn F' w' l xs
  | [], xs, h => by unfold MpsIn at h ⊢; exact h
  | r :: rs, xs, h => by
    unfold MpsIn at h ⊢
    obtain ⟨cs, rest, h1, h2, h3⟩ := h
    exact ⟨cs, rest, h1, MpIn.frame hF hf h2, MpsIn.frame hF hf h3⟩
end
theorem MpIn.kept {bp base b2 : Nat} {w w' : World} {r : Mp} {cs : Array Value} (h : MpAt base w r cs) (hk : Kept bp w w') (hb : bp < base) (h2 : b2 ≤ base) : MpAt b2 w' r cs :=
  h.frame (fun _ hg _ => Nat.le_trans h2 hg) (fun g hg hl => hk.block g hl (fun e => by have := Option.some.inj e; omega))
theorem MpIn.up {base b2 : Nat} {w : World} {r : Mp} {cs : Array Value} (h : MpAt base w r cs) (hb : b2 ≤ base) : MpAt b2 w r cs := h.frame (fun _ hg _ => Nat.le_trans hb hg) (fun _ _ _ => rfl)
theorem MpsIn.snoc {F : Nat → Prop} {w : World} : ∀ {l : List Mp} {xs : List Value} {r : Mp} {cs : Array Value}, MpsIn F w l xs → MpIn F w r cs → MpsIn F w (l ++ [r]) (xs ++ cs.toList)
  | [], xs, r, cs, h, h2 => by
    unfold MpsIn at h
    subst h
    show MpsIn F w [r] _
    unfold MpsIn MpsIn
    exact ⟨cs, [], by simp, h2, rfl⟩
  | r0 :: rs, xs, r, cs, h, h2 => by
    unfold MpsIn at h
    obtain ⟨c0, rest, rfl, h3, h4⟩ := h
    show MpsIn F w (r0 :: (rs ++ [r])) _
    unfold MpsIn
    exact ⟨c0, rest ++ cs.toList, by simp, h3, MpsIn.snoc h4 h2⟩
theorem MpIn.cells {F : Nat → Prop} {w : World} {r : Mp} {cs : Array Value} (h : MpIn F w r cs) : ∃ k rk rx rs ra rl rc rn rm o ad n cap mn mx, cs = mpC k rk rx rs (.slice ra rl rc) rn rm o (.slice ad n cap) mn mx := by
  obtain ⟨k, x, o, ps, mn, mx⟩ := r
  unfold MpIn at h
  obtain ⟨rk, rx, rs, rv, rn, rm, ad, cap, xs, rfl, h0, _⟩ := h
  obtain ⟨_, _, _, ra, rl, rc, _, _, he⟩ := h0.cells
  have e6 : rv = .slice ra rl rc := by
    have := congrArg (fun c : Array Value => c[6]?) he
    simpa using this
  subst e6
  exact ⟨k, rk, rx, rs, ra, rl, rc, rn, rm, o, ad, _, cap, mn, mx, rfl⟩
/-- a map of one expression -/
theorem MpIn.leaf {F : Nat → Prop} {w : World} {r : Re} {rk : Int} {rx : List B} {rs : Se} {rv : Value} {rn rm : Int} (h : ReIn F w r (reC rk rx rs rv rn rm)) (k : Int) (o : List B) (mn mx : Int) : MpIn F w (.mk k r o [] mn mx) (mpC k rk rx rs rv rn rm o (.slice none 0 0) mn mx) := by
  unfold MpIn
  exact ⟨rk, rx, rs, rv, rn, rm, none, 0, [], rfl, h, World.ownsRow_nil _ _ _ _, fun g hg => by simp [Value.ownBlock] at hg, by unfold MpsIn; rfl⟩

/-- what a function of the parser leaves that hands back a struct -/
def XPost {α : Type} (I : Nat → World → α → Array Value → Prop) (T : List Tok) (bp bt cap a dep : Nat) (w : World) (x : RX α) (e : Ending) (w' : World) : Prop :=
  Kept bp w w' ∧ match x with
  | .ok (r, a') => a < a' ∧ Pz T bp bt cap a' dep w' ∧ ∃ cs, e = .returned (.agg cs) ∧ I w.heap.size w' r cs
  | .error (p, y) => e = faultE p y
theorem XPost.bad {α : Type} {I : Nat → World → α → Array Value → Prop} {T : List Tok} {bp bt cap a dep : Nat} {w w' : World} {e : Ending} {x : RX α} {p y : Int} (h : XPost I T bp bt cap a dep w x e w') (hx : x = .error (p, y)) : Kept bp w w' ∧ e = faultE p y := by
  subst hx; exact h
theorem XPost.good {α : Type} {I : Nat → World → α → Array Value → Prop} {T : List Tok} {bp bt cap a dep : Nat} {w w' : World} {e : Ending} {x : RX α} {r : α} {a' : Nat} (h : XPost I T bp bt cap a dep w x e w') (hx : x = .ok (r, a')) :
    Kept bp w w' ∧ a < a' ∧ Pz T bp bt cap a' dep w' ∧ ∃ cs, e = .returned (.agg cs) ∧ I w.heap.size w' r cs := by
  subst hx; exact h
theorem XPost.mk_ok {α : Type} {I : Nat → World → α → Array Value → Prop} {T : List Tok} {bp bt cap a dep : Nat} {w w' : World} {x : RX α} {r : α} {a' : Nat} {e : Ending} {cs : Array Value} (hx : x = .ok (r, a')) (hk : Kept bp w w') (hl : a < a') (hz : Pz T bp bt cap a' dep w') (he : e = .returned (.agg cs)) (hr : I w.heap.size w' r cs) : XPost I T bp bt cap a dep w x e w' := by
  subst hx; exact ⟨hk, hl, hz, cs, he, hr⟩
theorem XPost.mk_bad {α : Type} {I : Nat → World → α → Array Value → Prop} {T : List Tok} {bp bt cap a dep : Nat} {w w' : World} {x : RX α} {p y : Int} {e : Ending} (hx : x = .error (p, y)) (hk : Kept bp w w') (he : e = faultE p y) : XPost I T bp bt cap a dep w x e w' := by
  subst hx; exact ⟨hk, he⟩
def ParsesX {α : Type} (I : Nat → World → α → Array Value → Prop) (T : List Tok) (f : FuncId) (D : Nat → Prop) (M : Nat → Nat → RX α) : Prop :=
  ∀ (bp bt cap a dep : Nat) (w : World), D dep → Pz T bp bt cap a dep w → Calls Tryz.prog f #[.pointer (some ⟨bp, 0, none⟩)] w (XPost I T bp bt cap a dep w (M a dep))
theorem ParsesX.go {α : Type} {I : Nat → World → α → Array Value → Prop} {T : List Tok} {f : FuncId} {D : Nat → Prop} {M : Nat → Nat → RX α} (h : ParsesX I T f D M) {bp bt cap a dep : Nat} {w : World} (hD : D dep) (hz : Pz T bp bt cap a dep w) :
    Calls Tryz.prog f #[.pointer (some ⟨bp, 0, none⟩)] w (XPost I T bp bt cap a dep w (M a dep)) := h bp bt cap a dep w hD hz
theorem fin_mp {T : List Tok} {bp bt cap a dep : Nat} {w wx : World} {x : RX Mp} {r : Mp} {a' : Nat} {cs : Array Value} (hx : x = .ok (r, a')) (hk : Kept bp (w.alloc (.cells mpZ 36)) wx) (hz : Pz T bp bt cap a' dep wx) (hbp : bp < w.heap.size) (hbt : bt < w.heap.size) (hl : a < a') (hr : MpAt (w.heap.size + 1) wx r cs) :
    XPost MpAt T bp bt cap a dep w x (.returned (.agg cs)) (wx.setRow w.heap.size cs) :=
  XPost.mk_ok hx (fin_kept hk hbp _) hl (hz.setRow (by omega) (by omega) _) rfl (hr.frame (fun g hg _ => by omega) (fun g hg _ => setRow_other cs (by omega)))

/-- a slice of maps of the call's own -/
structure Ms (base : Nat) (w : World) (l : List Mp) (v : Value) : Prop where
  own : ∃ xs, w.ownsRow base 36 14 v l.length xs ∧ MpsIn (fun g => base ≤ g ∧ some g ≠ v.ownBlock) w l xs
theorem Ms.kept {bp base : Nat} {w w' : World} {l : List Mp} {v : Value} (h : Ms base w l v) (hk : Kept bp w w') (hb : bp < base) : Ms base w' l v := by
  obtain ⟨xs, h1, h3⟩ := h.own
  exact ⟨xs, ownsRow_same h1 (fun g hg => own_block h1 hg) (fun g hg hl => hk.block g hl (fun e => by have := Option.some.inj e; have := own_block h1 hg; omega)),
    h3.frame (fun _ hg _ => hg) (fun g hg hl => hk.block g hl (fun e => by have := Option.some.inj e; have := hg.1; omega))⟩
theorem Ms.shape {base : Nat} {w : World} {l : List Mp} {v : Value} (h : Ms base w l v) : ∃ ad cap, v = .slice ad l.length cap := by
  obtain ⟨xs, h1, h3⟩ := h.own
  exact own_shape h1
theorem Ms.node {base : Nat} {w : World} {l : List Mp} {ad : Option Addr} {cap : Nat} (h : Ms base w l (.slice ad l.length cap)) (k mn mx : Int) : MpAt base w (.mk k Re.zero [] l mn mx) (mpC k 0 [] Se.none (.slice none 0 0) 0 0 [] (.slice ad l.length cap) mn mx) := by
  obtain ⟨xs, h1, h3⟩ := h.own
  unfold MpAt MpIn
  exact ⟨_, _, _, _, _, _, ad, cap, xs, rfl, ReIn.leaf _ _ _ _ _ _ _, ownsRow_same h1 (fun _ _ => Nat.zero_le _) (fun _ _ _ => rfl), fun g hg => own_block h1 hg, h3.frame (fun _ hg _ => hg.1) (fun _ _ _ => rfl)⟩
theorem Ms.snoc {base low g cap : Nat} {w w' : World} {l : List Mp} {r : Mp} {v : Value} {xs : List Value} {cs : Array Value}
    (ho : w'.ownsRow base 36 14 (.slice (some ⟨g, 0, none⟩) (l.length + 1) cap) (l.length + 1) (xs ++ cs.toList)) (hp : MpsIn (fun g => base ≤ g ∧ some g ≠ v.ownBlock) w l xs)
    (hr : MpAt low w r cs) (hlow : ∀ g, v.ownBlock = some g → g < low) (hb : base ≤ low) (hg : w.grownBy w' v.ownBlock) (hat : v.ownBlock = some g ∨ g = w.heap.size) :
    Ms base w' (l ++ [r]) (.slice (some ⟨g, 0, none⟩) (l ++ [r]).length cap) := by
  have hlen : (l ++ [r]).length = l.length + 1 := by simp
  rw [hlen]
  refine ⟨⟨xs ++ cs.toList, by rw [hlen]; exact ho, MpsIn.snoc (hp.frame (fun g' hg' hl => ⟨hg'.1, ?_⟩) (fun g' hg' hl => hg.block g' hl hg'.2)) (hr.frame (fun g' hg' hl => ⟨Nat.le_trans hb hg', ?_⟩) (fun g' hg' hl => hg.block g' hl (fun e => by have := hlow g' e.symm; omega)))⟩⟩
  · rcases hat with hat | rfl
    · rw [hat] at hg'; exact hg'.2
    · intro e; have := Option.some.inj e; simp at this; omega
  · rcases hat with hat | rfl
    · intro e
      have h1 := Option.some.inj e
      have h2 := hlow g hat
      simp at h1
      omega
    · intro e; have := Option.some.inj e; simp at this; omega
theorem Ms.single {base : Nat} {w : World} {r : Mp} {cs : Array Value} (h : MpAt base w r cs) (hn : cs.size = 14) (hb : base ≤ w.heap.size) : Ms base (w.alloc (.cells cs 36)) [r] (.slice (some ⟨w.heap.size, 0, none⟩) [r].length 1) where
  own := ⟨cs.toList, ⟨by simp [hn], .inr ⟨w.heap.size, 1, cs, rfl, hb, heap_alloc_new _ _, Nat.le_refl _, by unfold maxLen; omega, by rw [hn], by rw [List.take_of_length_le (by simp [hn])]⟩⟩, by
    unfold MpsIn MpsIn
    exact ⟨_, [], by simp, h.frame (fun g hg hl => ⟨hg, fun e => by have := Option.some.inj e; simp at this; omega⟩) (fun g _ hg => alloc_old hg), rfl⟩⟩

set_option maxRecDepth 100000 in
set_option maxHeartbeats 1000000 in
theorem mapRow_any {base : Nat} {w : World} {l : List Mp} {ad : Option Addr} {cap : Nat} (h : Ms base w l (.slice ad l.length cap)) (k : Int) :
    Calls Tryz.prog 119 #[.int .i64 k, .slice ad l.length cap] w fun e w' => Below w.heap.size w w' ∧ ∃ cs, e = .returned (.agg cs) ∧ MpAt base w' (mjoinM k l) cs := by
  by_cases h1 : l.length = 1
  · obtain ⟨r, rfl⟩ : ∃ r, l = [r] := List.length_eq_one_iff.1 h1
    obtain ⟨xs, ho, hp⟩ := h.own
    unfold MpsIn MpsIn at hp
    obtain ⟨cs, rest, rfl, hr, rfl⟩ := hp
    obtain ⟨kk, rk, rx, rs, ra, rl, rc, rn, rm, o, ad2, n, cap2, mn, mx, rfl⟩ := hr.cells
    obtain ⟨g, cap', cur, hv, hbg, hgg, hn, hm, hsz, htk⟩ := ho.2.resolve_left (by rintro ⟨_, h2⟩; simp at h2)
    have hc := ho.cells (g := g) (by rw [hv]; rfl)
    cases hv
    have k0 : w.cell? ⟨g, 0, none⟩ = some (.int .i64 kk) := hc 0 _ rfl
    have k1 : w.cell? ⟨g, 1, none⟩ = some (.int .i64 rk) := hc 1 _ rfl
    have k2 : w.cell? ⟨g, 2, none⟩ = some (.string ⟨rx.toArray⟩) := hc 2 _ rfl
    have k3 : w.cell? ⟨g, 3, none⟩ = some (.int .u64 rs.a) := hc 3 _ rfl
    have k4 : w.cell? ⟨g, 4, none⟩ = some (.int .u64 rs.b) := hc 4 _ rfl
    have k5 : w.cell? ⟨g, 5, none⟩ = some (.int .u64 rs.c) := hc 5 _ rfl
    have k6 : w.cell? ⟨g, 6, none⟩ = some (.int .u64 rs.d) := hc 6 _ rfl
    have k7 : w.cell? ⟨g, 7, none⟩ = some (.slice ra rl rc) := hc 7 _ rfl
    have k8 : w.cell? ⟨g, 8, none⟩ = some (.int .i64 rn) := hc 8 _ rfl
    have k9 : w.cell? ⟨g, 9, none⟩ = some (.int .i64 rm) := hc 9 _ rfl
    have k10 : w.cell? ⟨g, 10, none⟩ = some (.string ⟨o.toArray⟩) := hc 10 _ rfl
    have k11 : w.cell? ⟨g, 11, none⟩ = some (.slice ad2 n cap2) := hc 11 _ rfl
    have k12 : w.cell? ⟨g, 12, none⟩ = some (.int .i64 mn) := hc 12 _ rfl
    have k13 : w.cell? ⟨g, 13, none⟩ = some (.int .i64 mx) := hc 13 _ rfl
    have hgl : g < w.heap.size := (Array.getElem?_eq_some_iff.1 hgg).1
    clear hc ho h
    go_enter Tryz.func119, Tryz.ntmps119
    go_wp2_with (refine wpList_store_blk rfl 36 (.tmp 4) (.tmp 10) rfl 14 info44 w.heap.size 36 mpZ (heap_alloc_new _ _) rfl (mpC kk rk rx rs (.slice ra rl rc) rn rm o (.slice ad2 n cap2) mn mx) rfl rfl rfl rfl ?_)
    refine bodyPost_ret (results_cell_row rfl _ _ w.heap.size 36 (mpC kk rk rx rs (.slice ra rl rc) rn rm o (.slice ad2 n cap2) mn mx) (0, 0) _ rfl (setRow_heap (heap_alloc_new _ _) _) Tryz.underlying36 rfl info44) rfl ⟨Below.setRow ((Below.refl _ _).alloc (Nat.le_refl _) _) (Nat.le_refl _) _, _, rfl, ?_⟩
    exact hr.frame (fun _ hg _ => hg.1) (fun g _ hg => (setRow_other _ (by omega)).trans (alloc_old hg))
  · have h1' : ((l.length : Int) == 1) = false := by rw [beq_eq_false_iff_ne]; omega
    have hj : mjoinM k l = .mk k Re.zero [] l 0 0 := by
      unfold mjoinM
      split
      · exact absurd rfl h1
      · rfl
    clear h1
    go_enter Tryz.func119, Tryz.ntmps119
    go_wp2_with (refine wpList_store_blk rfl 36 (.tmp 4) (.tmp 13) rfl 14 info44 w.heap.size 36 mpZ (heap_alloc_new _ _) rfl (mpC k 0 [] Se.none (.slice none 0 0) 0 0 [] (.slice ad l.length cap) 0 0) rfl rfl rfl rfl ?_)
    refine bodyPost_ret (results_cell_row rfl _ _ w.heap.size 36 (mpC k 0 [] Se.none (.slice none 0 0) 0 0 [] (.slice ad l.length cap) 0 0) (0, 0) _ rfl (setRow_heap (heap_alloc_new _ _) _) Tryz.underlying36 rfl info44) rfl ⟨Below.setRow ((Below.refl _ _).alloc (Nat.le_refl _) _) (Nat.le_refl _) _, _, rfl, ?_⟩
    rw [hj]
    exact (h.node k 0 0).frame (fun _ hg _ => hg) (fun g _ hg => (setRow_other _ (by omega)).trans (alloc_old hg))
end Go.Proofs.YtfljcfdfgojdoaaGreatDoor
