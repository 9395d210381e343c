/-
  A map in memory, and a slice of maps; the contract of mapRow.
  A region that draws its order and ends in a store: S is asked only as long as the store (number n) has not come up. So the loads of the very cell that is stored may be taken first.
-/
import Derived.Test.YtfljcfdfgojdoaaGreatDoorAa09
import Derived.Deep.RegionHeld3
import Derived.Deep.AppendLies
import Derived.OwnWalk
namespace Go.Proofs.YtfljcfdfgojdoaaGreatDoor
open Go.RowKit Go.Lib

/-- the fourteen cells of a map -/
abbrev mpC (k rk : Int) (rx : List B) (rs : Se) (rv : Value) (rn rm : Int) (o : List B) (v : Value) (mn mx : Int) : Array Value :=
  #[.int .i64 k, .int .i64 rk, .string ⟨rx.toArray⟩, .int .u64 rs.a, .int .u64 rs.b, .int .u64 rs.c, .int .u64 rs.d, rv, .int .i64 rn, .int .i64 rm, .string ⟨o.toArray⟩, v, .int .i64 mn, .int .i64 mx]
abbrev mpZ : Array Value := #[.int .i64 0, .int .i64 0, .string ⟨#[]⟩, .int .u64 0, .int .u64 0, .int .u64 0, .int .u64 0, .slice none 0 0, .int .i64 0, .int .i64 0, .string ⟨#[]⟩, .slice none 0 0, .int .i64 0, .int .i64 0]
theorem info44 : (Tryz.prog.info? 36).map (·.size) = some 14 := by kernel_rfl
theorem info44' : (Tryz.prog.info? 36).map (fun i => (i.zero, i.size, i.bytes)) = some (some (.agg mpZ), 14, 160) := by kernel_rfl
mutual
/-- fourteen cells read as a map, whose parts lie in blocks that F holds of -/
def MpIn (F : Nat → Prop) (w : World) : Mp → Array Value → Prop
  | .mk k r o ps mn mx, cs => ∃ rk rx rs rv rn rm ad cap xs, cs = mpC k rk rx rs rv rn rm o (.slice ad ps.length cap) mn mx ∧ ReIn F w r (reC rk rx rs rv rn rm) ∧ w.ownsRow 0 36 14 (.slice ad ps.length cap) ps.length xs ∧ (∀ g, (Value.slice ad ps.length cap).ownBlock = some g → F g) ∧ MpsIn F w ps xs
def MpsIn (F : Nat → Prop) (w : World) : List Mp → List Value → Prop
  | [], xs => xs = []
  | r :: rs, xs => ∃ cs rest, xs = cs.toList ++ rest ∧ MpIn F w r cs ∧ MpsIn F w rs rest
end
abbrev MpAt (base : Nat) : World → Mp → Array Value → Prop := MpIn fun g => base ≤ g
mutual
theorem MpIn.frame {F F' : Nat → Prop} {w w' : World} (hF : ∀ g, F g → g < w.heap.size → F' g) (hf : ∀ g, F g → g < w.heap.size → w'.heap[g]? = w.heap[g]?) : ∀ {r : Mp} {cs : Array Value}, MpIn F w r cs → MpIn F' w' r cs
  | .mk k r o ps mn mx, cs, h => by
    unfold MpIn at h ⊢
    obtain ⟨rk, rx, rs, rv, rn, rm, ad, cap, xs, h1, h0, h2, h3, h4⟩ := h
    refine ⟨rk, rx, rs, rv, rn, rm, ad, cap, xs, h1, h0.frame hF hf, ownsRow_same h2 (fun _ _ => Nat.zero_le _) (fun g hg hl => hf g (h3 g hg) hl), fun g hg => ?_, MpsIn.frame hF hf h4⟩
    rcases h2.2 with ⟨hv, _⟩ | ⟨g', cap', cur, hv, _, hgg, _⟩
    · rw [hv] at hg; simp [Value.ownBlock] at hg
    · have hg0 := hg
      rw [hv] at hg
      simp [Value.ownBlock] at hg
      subst hg
      exact hF _ (h3 _ hg0) (Array.getElem?_eq_some_iff.1 hgg).1
theorem MpsIn.frame {F F' : Nat → Prop} {w w' : World} (hF : ∀ g, F g → g < w.heap.size → F' g) (hf : ∀ g, F g → g < w.heap.size → w'.heap[g]? = w.heap[g]?) : ∀ {l : List Mp} {xs : List Value}, MpsIn F w l xs → MpsIn F' w' l xs
  | [], xs, h => by unfold MpsIn at h ⊢; exact h
  | r :: rs, xs, h => by
    unfold MpsIn at h ⊢
    obtain ⟨cs, rest, h1, h2, h3⟩ := h
    exact ⟨cs, rest, h1, MpIn.frame hF hf h2, MpsIn.frame hF hf h3⟩
end
theorem MpIn.kept {bp base b2 : Nat} {w w' : World} {r : Mp} {cs : Array Value} (h : MpAt base w r cs) (hk : Kept bp w w') (hb : bp < base) (h2 : b2 ≤ base) : MpAt b2 w' r cs :=
  h.frame (fun _ hg _ => Nat.le_trans h2 hg) (fun g hg hl => hk.block g hl (fun e => by have := Option.some.inj e; omega))
theorem MpIn.up {base b2 : Nat} {w : World} {r : Mp} {cs : Array Value} (h : MpAt base w r cs) (hb : b2 ≤ base) : MpAt b2 w r cs := h.frame (fun _ hg _ => Nat.le_trans hb hg) (fun _ _ _ => rfl)
theorem MpsIn.snoc {F : Nat → Prop} {w : World} : ∀ {l : List Mp} {xs : List Value} {r : Mp} {cs : Array Value}, MpsIn F w l xs → MpIn F w r cs → MpsIn F w (l ++ [r]) (xs ++ cs.toList)
  | [], xs, r, cs, h, h2 => by
    unfold MpsIn at h
    subst h
    show MpsIn F w [r] _
    unfold MpsIn MpsIn
    exact ⟨cs, [], by simp, h2, rfl⟩
  | r0 :: rs, xs, r, cs, h, h2 => by
    unfold MpsIn at h
    obtain ⟨c0, rest, rfl, h3, h4⟩ := h
    show MpsIn F w (r0 :: (rs ++ [r])) _
    unfold MpsIn
    exact ⟨c0, rest ++ cs.toList, by simp, h3, MpsIn.snoc h4 h2⟩
theorem MpIn.cells {F : Nat → Prop} {w : World} {r : Mp} {cs : Array Value} (h : MpIn F w r cs) : ∃ k rk rx rs ra rl rc rn rm o ad n cap mn mx, cs = mpC k rk rx rs (.slice ra rl rc) rn rm o (.slice ad n cap) mn mx := by
  obtain ⟨k, x, o, ps, mn, mx⟩ := r
  unfold MpIn at h
  obtain ⟨rk, rx, rs, rv, rn, rm, ad, cap, xs, rfl, h0, _⟩ := h
  obtain ⟨_, _, _, ra, rl, rc, _, _, he⟩ := h0.cells
  have e6 : rv = .slice ra rl rc := by
    have := congrArg (fun c : Array Value => c[6]?) he
    simpa using this
  subst e6
  exact ⟨k, rk, rx, rs, ra, rl, rc, rn, rm, o, ad, _, cap, mn, mx, rfl⟩
/-- a map of one expression -/
theorem MpIn.leaf {F : Nat → Prop} {w : World} {r : Re} {rk : Int} {rx : List B} {rs : Se} {rv : Value} {rn rm : Int} (h : ReIn F w r (reC rk rx rs rv rn rm)) (k : Int) (o : List B) (mn mx : Int) : MpIn F w (.mk k r o [] mn mx) (mpC k rk rx rs rv rn rm o (.slice none 0 0) mn mx) := by
  unfold MpIn
  exact ⟨rk, rx, rs, rv, rn, rm, none, 0, [], rfl, h, World.ownsRow_nil _ _ _ _, fun g hg => by simp [Value.ownBlock] at hg, by unfold MpsIn; rfl⟩

/-- what a function of the parser leaves that hands back a struct -/
def XPost {α : Type} (I : Nat → World → α → Array Value → Prop) (T : List Tok) (bp bt cap a dep : Nat) (w : World) (x : RX α) (e : Ending) (w' : World) : Prop :=
  Kept bp w w' ∧ match x with
  | .ok (r, a') => a < a' ∧ Pz T bp bt cap a' dep w' ∧ ∃ cs, e = .returned (.agg cs) ∧ I w.heap.size w' r cs
  | .error (p, y) => e = faultE p y
theorem XPost.bad {α : Type} {I : Nat → World → α → Array Value → Prop} {T : List Tok} {bp bt cap a dep : Nat} {w w' : World} {e : Ending} {x : RX α} {p y : Int} (h : XPost I T bp bt cap a dep w x e w') (hx : x = .error (p, y)) : Kept bp w w' ∧ e = faultE p y := by
  subst hx; exact h
theorem XPost.good {α : Type} {I : Nat → World → α → Array Value → Prop} {T : List Tok} {bp bt cap a dep : Nat} {w w' : World} {e : Ending} {x : RX α} {r : α} {a' : Nat} (h : XPost I T bp bt cap a dep w x e w') (hx : x = .ok (r, a')) :
    Kept bp w w' ∧ a < a' ∧ Pz T bp bt cap a' dep w' ∧ ∃ cs, e = .returned (.agg cs) ∧ I w.heap.size w' r cs := by
  subst hx; exact h
theorem XPost.mk_ok {α : Type} {I : Nat → World → α → Array Value → Prop} {T : List Tok} {bp bt cap a dep : Nat} {w w' : World} {x : RX α} {r : α} {a' : Nat} {e : Ending} {cs : Array Value} (hx : x = .ok (r, a')) (hk : Kept bp w w') (hl : a < a') (hz : Pz T bp bt cap a' dep w') (he : e = .returned (.agg cs)) (hr : I w.heap.size w' r cs) : XPost I T bp bt cap a dep w x e w' := by
  subst hx; exact ⟨hk, hl, hz, cs, he, hr⟩
theorem XPost.mk_bad {α : Type} {I : Nat → World → α → Array Value → Prop} {T : List Tok} {bp bt cap a dep : Nat} {w w' : World} {x : RX α} {p y : Int} {e : Ending} (hx : x = .error (p, y)) (hk : Kept bp w w') (he : e = faultE p y) : XPost I T bp bt cap a dep w x e w' := by
  subst hx; exact ⟨hk, he⟩
def ParsesX {α : Type} (I : Nat → World → α → Array Value → Prop) (T : List Tok) (f : FuncId) (D : Nat → Prop) (M : Nat → Nat → RX α) : Prop :=
  ∀ (bp bt cap a dep : Nat) (w : World), D dep → Pz T bp bt cap a dep w → Calls Tryz.prog f #[.pointer (some ⟨bp, 0, none⟩)] w (XPost I T bp bt cap a dep w (M a dep))
theorem ParsesX.go {α : Type} {I : Nat → World → α → Array Value → Prop} {T : List Tok} {f : FuncId} {D : Nat → Prop} {M : Nat → Nat → RX α} (h : ParsesX I T f D M) {bp bt cap a dep : Nat} {w : World} (hD : D dep) (hz : Pz T bp bt cap a dep w) :
    Calls Tryz.prog f #[.pointer (some ⟨bp, 0, none⟩)] w (XPost I T bp bt cap a dep w (M a dep)) := h bp bt cap a dep w hD hz
theorem fin_mp {T : List Tok} {bp bt cap a dep : Nat} {w wx : World} {x : RX Mp} {r : Mp} {a' : Nat} {cs : Array Value} (hx : x = .ok (r, a')) (hk : Kept bp (w.alloc (.cells mpZ 36)) wx) (hz : Pz T bp bt cap a' dep wx) (hbp : bp < w.heap.size) (hbt : bt < w.heap.size) (hl : a < a') (hr : MpAt (w.heap.size + 1) wx r cs) :
    XPost MpAt T bp bt cap a dep w x (.returned (.agg cs)) (wx.setRow w.heap.size cs) :=
  XPost.mk_ok hx (fin_kept hk hbp _) hl (hz.setRow (by omega) (by omega) _) rfl (hr.frame (fun g hg _ => by omega) (fun g hg _ => setRow_other cs (by omega)))

/-- a slice of maps of the call's own -/
structure Ms (base : Nat) (w : World) (l : List Mp) (v : Value) : Prop where
  own : ∃ xs, w.ownsRow base 36 14 v l.length xs ∧ MpsIn (fun g => base ≤ g ∧ some g ≠ v.ownBlock) w l xs
theorem Ms.kept {bp base : Nat} {w w' : World} {l : List Mp} {v : Value} (h : Ms base w l v) (hk : Kept bp w w') (hb : bp < base) : Ms base w' l v := by
  obtain ⟨xs, h1, h3⟩ := h.own
  exact ⟨xs, ownsRow_same h1 (fun g hg => own_block h1 hg) (fun g hg hl => hk.block g hl (fun e => by have := Option.some.inj e; have := own_block h1 hg; omega)),
    h3.frame (fun _ hg _ => hg) (fun g hg hl => hk.block g hl (fun e => by have := Option.some.inj e; have := hg.1; omega))⟩
theorem Ms.shape {base : Nat} {w : World} {l : List Mp} {v : Value} (h : Ms base w l v) : ∃ ad cap, v = .slice ad l.length cap := by
  obtain ⟨xs, h1, h3⟩ := h.own
  exact own_shape h1
theorem Ms.node {base : Nat} {w : World} {l : List Mp} {ad : Option Addr} {cap : Nat} (h : Ms base w l (.slice ad l.length cap)) (k mn mx : Int) : MpAt base w (.mk k Re.zero [] l mn mx) (mpC k 0 [] Se.none (.slice none 0 0) 0 0 [] (.slice ad l.length cap) mn mx) := by
  obtain ⟨xs, h1, h3⟩ := h.own
  unfold MpAt MpIn
  exact ⟨_, _, _, _, _, _, ad, cap, xs, rfl, ReIn.leaf _ _ _ _ _ _ _, ownsRow_same h1 (fun _ _ => Nat.zero_le _) (fun _ _ _ => rfl), fun g hg => own_block h1 hg, h3.frame (fun _ hg _ => hg.1) (fun _ _ _ => rfl)⟩
theorem Ms.snoc {base low g cap : Nat} {w w' : World} {l : List Mp} {r : Mp} {v : Value} {xs : List Value} {cs : Array Value}
    (ho : w'.ownsRow base 36 14 (.slice (some ⟨g, 0, none⟩) (l.length + 1) cap) (l.length + 1) (xs ++ cs.toList)) (hp : MpsIn (fun g => base ≤ g ∧ some g ≠ v.ownBlock) w l xs)
    (hr : MpAt low w r cs) (hlow : ∀ g, v.ownBlock = some g → g < low) (hb : base ≤ low) (hg : w.grownBy w' v.ownBlock) (hat : v.ownBlock = some g ∨ g = w.heap.size) :
    Ms base w' (l ++ [r]) (.slice (some ⟨g, 0, none⟩) (l ++ [r]).length cap) := by
  have hlen : (l ++ [r]).length = l.length + 1 := by simp
  rw [hlen]
  refine ⟨⟨xs ++ cs.toList, by rw [hlen]; exact ho, MpsIn.snoc (hp.frame (fun g' hg' hl => ⟨hg'.1, ?_⟩) (fun g' hg' hl => hg.block g' hl hg'.2)) (hr.frame (fun g' hg' hl => ⟨Nat.le_trans hb hg', ?_⟩) (fun g' hg' hl => hg.block g' hl (fun e => by have := hlow g' e.symm; omega)))⟩⟩
  · rcases hat with hat | rfl
    · rw [hat] at hg'; exact hg'.2
    · intro e; have := Option.some.inj e; simp at this; omega
  · rcases hat with hat | rfl
    · intro e
      have h1 := Option.some.inj e
      have h2 := hlow g hat
      simp at h1
      omega
    · intro e; have := Option.some.inj e; simp at this; omega
theorem Ms.single {base : Nat} {w : World} {r : Mp} {cs : Array Value} (h : MpAt base w r cs) (hn : cs.size = 14) (hb : base ≤ w.heap.size) : Ms base (w.alloc (.cells cs 36)) [r] (.slice (some ⟨w.heap.size, 0, none⟩) [r].length 1) where
  own := ⟨cs.toList, ⟨by simp [hn], .inr ⟨w.heap.size, 1, cs, rfl, hb, heap_alloc_new _ _, Nat.le_refl _, by unfold maxLen; omega, by rw [hn], by rw [List.take_of_length_le (by simp [hn])]⟩⟩, by
    unfold MpsIn MpsIn
    exact ⟨_, [], by simp, h.frame (fun g hg hl => ⟨hg, fun e => by have := Option.some.inj e; simp at this; omega⟩) (fun g _ hg => alloc_old hg), rfl⟩⟩

set_option maxRecDepth 100000 in
set_option maxHeartbeats 1000000 in
theorem mapRow_any {base : Nat} {w : World} {l : List Mp} {ad : Option Addr} {cap : Nat} (h : Ms base w l (.slice ad l.length cap)) (k : Int) :
    Calls Tryz.prog 119 #[.int .i64 k, .slice ad l.length cap] w fun e w' => Below w.heap.size w w' ∧ ∃ cs, e = .returned (.agg cs) ∧ MpAt base w' (mjoinM k l) cs := by
  by_cases h1 : l.length = 1
  · obtain ⟨r, rfl⟩ : ∃ r, l = [r] := List.length_eq_one_iff.1 h1
    obtain ⟨xs, ho, hp⟩ := h.own
    unfold MpsIn MpsIn at hp
    obtain ⟨cs, rest, rfl, hr, rfl⟩ := hp
    obtain ⟨kk, rk, rx, rs, ra, rl, rc, rn, rm, o, ad2, n, cap2, mn, mx, rfl⟩ := hr.cells
    obtain ⟨g, cap', cur, hv, hbg, hgg, hn, hm, hsz, htk⟩ := ho.2.resolve_left (by rintro ⟨_, h2⟩; simp at h2)
    have hc := ho.cells (g := g) (by rw [hv]; rfl)
    cases hv
    have k0 : w.cell? ⟨g, 0, none⟩ = some (.int .i64 kk) := hc 0 _ rfl
    have k1 : w.cell? ⟨g, 1, none⟩ = some (.int .i64 rk) := hc 1 _ rfl
    have k2 : w.cell? ⟨g, 2, none⟩ = some (.string ⟨rx.toArray⟩) := hc 2 _ rfl
    have k3 : w.cell? ⟨g, 3, none⟩ = some (.int .u64 rs.a) := hc 3 _ rfl
    have k4 : w.cell? ⟨g, 4, none⟩ = some (.int .u64 rs.b) := hc 4 _ rfl
    have k5 : w.cell? ⟨g, 5, none⟩ = some (.int .u64 rs.c) := hc 5 _ rfl
    have k6 : w.cell? ⟨g, 6, none⟩ = some (.int .u64 rs.d) := hc 6 _ rfl
    have k7 : w.cell? ⟨g, 7, none⟩ = some (.slice ra rl rc) := hc 7 _ rfl
    have k8 : w.cell? ⟨g, 8, none⟩ = some (.int .i64 rn) := hc 8 _ rfl
    have k9 : w.cell? ⟨g, 9, none⟩ = some (.int .i64 rm) := hc 9 _ rfl
    have k10 : w.cell? ⟨g, 10, none⟩ = some (.string ⟨o.toArray⟩) := hc 10 _ rfl
    have k11 : w.cell? ⟨g, 11, none⟩ = some (.slice ad2 n cap2) := hc 11 _ rfl
    have k12 : w.cell? ⟨g, 12, none⟩ = some (.int .i64 mn) := hc 12 _ rfl
    have k13 : w.cell? ⟨g, 13, none⟩ = some (.int .i64 mx) := hc 13 _ rfl
    have hgl : g < w.heap.size := (Array.getElem?_eq_some_iff.1 hgg).1
    clear hc ho h
    go_enter Tryz.func119, Tryz.ntmps119
    go_wp2_with (refine wpList_store_blk rfl 36 (.tmp 4) (.tmp 10) rfl 14 info44 w.heap.size 36 mpZ (heap_alloc_new _ _) rfl (mpC kk rk rx rs (.slice ra rl rc) rn rm o (.slice ad2 n cap2) mn mx) rfl rfl rfl rfl ?_)
    refine bodyPost_ret (results_cell_row rfl _ _ w.heap.size 36 (mpC kk rk rx rs (.slice ra rl rc) rn rm o (.slice ad2 n cap2) mn mx) (0, 0) _ rfl (setRow_heap (heap_alloc_new _ _) _) Tryz.underlying36 rfl info44) rfl ⟨Below.setRow ((Below.refl _ _).alloc (Nat.le_refl _) _) (Nat.le_refl _) _, _, rfl, ?_⟩
    exact hr.frame (fun _ hg _ => hg.1) (fun g _ hg => (setRow_other _ (by omega)).trans (alloc_old hg))
  · have h1' : ((l.length : Int) == 1) = false := by rw [beq_eq_false_iff_ne]; omega
    have hj : mjoinM k l = .mk k Re.zero [] l 0 0 := by
      unfold mjoinM
      split
      · exact absurd rfl h1
      · rfl
    clear h1
    go_enter Tryz.func119, Tryz.ntmps119
    go_wp2_with (refine wpList_store_blk rfl 36 (.tmp 4) (.tmp 13) rfl 14 info44 w.heap.size 36 mpZ (heap_alloc_new _ _) rfl (mpC k 0 [] Se.none (.slice none 0 0) 0 0 [] (.slice ad l.length cap) 0 0) rfl rfl rfl rfl ?_)
    refine bodyPost_ret (results_cell_row rfl _ _ w.heap.size 36 (mpC k 0 [] Se.none (.slice none 0 0) 0 0 [] (.slice ad l.length cap) 0 0) (0, 0) _ rfl (setRow_heap (heap_alloc_new _ _) _) Tryz.underlying36 rfl info44) rfl ⟨Below.setRow ((Below.refl _ _).alloc (Nat.le_refl _) _) (Nat.le_refl _) _, _, rfl, ?_⟩
    rw [hj]
    exact (h.node k 0 0).frame (fun _ hg _ => hg) (fun g _ hg => (setRow_other _ (by omega)).trans (alloc_old hg))
end Go.Proofs.YtfljcfdfgojdoaaGreatDoor

namespace Go.Proofs.YtfljcfdfgojdoaaGreatDoor.Im
open Go

section
variable {P : Program} {ops : Array Oper} {Q : Exit → Act → World → Prop} {md : Region.Mode} {S : World → Prop} {n : Nat}
def Till (P : Program) (md : Region.Mode) (ops : Array Oper) (Q : Exit → Act → World → Prop) (S : World → Prop) (n : Nat) : Nat → Array Bool → Act → World → Prop
  | 0, L, a, w => Region.ready md ops L = [] ∧ Q .normal a w
  | f + 1, L, a, w => (Region.ready md ops L = [] → Q .normal a w) ∧
      ∀ i ∈ Region.ready md ops L, wpOp P ops Q i (fun a' w' => ((L.setIfInBounds i true).getD n true = false → S w') ∧ Till P md ops Q S n f (L.setIfInBounds i true) a' w') a w
theorem Till.any : ∀ {f : Nat} {L : Array Bool} {a : Act} {w : World}, Till P md ops Q S n f L a w → wpAny P md ops Q f L a w
  | 0, _, _, _, h => h
  | _ + 1, _, _, _, h => ⟨h.1, fun i hi => wpOp_mono (fun _ _ h' => Till.any h'.2) (h.2 i hi)⟩
theorem Till.start {id : Nat} {a : Act} {w : World} (hm : P.follows .mixedOrders = true) (h : Till P .any ops Q S n ops.size (Array.replicate ops.size false) a w.drew) : (Code.region id ops true).wp P Q a w :=
  wp_region_any hm h.any
theorem Till.first {i : Nat} {oi on : Oper} {v : Value} (hi : ops[i]? = some oi) (hsel : ∀ (j : Nat) (o : Oper) cs b, ops[j]? = some o → o.op ≠ .select cs b)
    (hQ : ∀ c a w, Q (.panic c) (a.put oi.dst v) w → Q (.panic c) a w) (hon : ops[n]? = some on) (hni : n ≠ i) (hwait : ∃ e ∈ on.after, Region.binds md e = true ∧ e.on = i) :
    ∀ (f : Nat) (L : Array Bool) (a : Act) (w : World),
      (∀ j oj, ops[j]? = some oj → j ≠ i → L.getD j true = false → (∀ e ∈ oj.after, Region.binds md e = true → e.on ≠ i) → oi.apart ops oj = true) →
      i ∈ Region.ready md ops L → L.getD n true = false → YieldsIf P ops S oi v a → S w →
      Till P md ops Q S n f (L.setIfInBounds i true) (a.put oi.dst v) w → Till P md ops Q S n (f + 1) L a w := by
  intro f
  induction f with
  | zero =>
    intro L a w _ hr hln hy hS H
    refine ⟨fun h => (by rw [h] at hr; cases hr), fun j hj => ?_⟩
    by_cases hji : j = i
    · subst hji; exact hy.wpOp hi hS ⟨fun _ => hS, H⟩
    · have := ready_mono hj hji
      rw [H.1] at this
      cases this
  | succ f ih =>
    intro L a w hfree hr hln hy hS H
    refine ⟨fun h => (by rw [h] at hr; cases hr), fun j hj => ?_⟩
    by_cases hji : j = i
    · subst hji; exact hy.wpOp hi hS ⟨fun _ => hS, H⟩
    · have h1 := H.2 j (ready_mono hj hji)
      obtain ⟨hjun, oj, hoj, hall⟩ := mem_ready.1 hj
      have hiun := (mem_ready.1 hr).1
      have hif : L.getD i false = false := by
        simp only [Array.getD_eq_getD_getElem?] at hiun ⊢
        cases h : L[i]? with
        | none => rfl
        | some b => rw [h] at hiun; exact hiun
      have hnot : ∀ e ∈ oj.after, Region.binds md e = true → e.on ≠ i := fun e he hb heq => by
        have h1 := hall e he hb
        rw [heq, hif] at h1
        cases h1
      have hjn : j ≠ n := fun h => by
        subst h
        rw [hon] at hoj; cases hoj
        obtain ⟨e, he, hb, heq⟩ := hwait
        exact hnot e he hb heq
      have hln' : (L.setIfInBounds j true).getD n true = false := by rw [getD_set_ne true hjn]; exact hln
      have hln2 : ((L.setIfInBounds i true).setIfInBounds j true).getD n true = false := by
        rw [getD_set_ne true hjn, getD_set_ne true (Ne.symm hni)]; exact hln
      have h2 := wpOp_putIf hoj (hfree j oj hoj hji hjun hnot) (fun cs b => hsel i oi cs b hi) (fun cs b => hsel j oj cs b hoj) hQ hy h1
      refine wpOp_mono (fun a' w' h3 => ⟨fun _ => h3.2.1 hln2, ih (L.setIfInBounds j true) a' w' (fun k ok hk hki hun hno => ?_) (ready_mono hr (Ne.symm hji)) hln' h3.1 (h3.2.1 hln2) ?_⟩) h2
      · refine hfree k ok hk hki ?_ hno
        by_cases hjk : j = k
        · subst hjk; exact hjun
        · rw [getD_set_ne true hjk] at hun; exact hun
      · rw [Array.setIfInBounds_comm _ _ hji]
        exact h3.2.2
/-- does operation n wait for operation i? -/
def waits (md : Region.Mode) (ops : Array Oper) (n i : Nat) : Bool :=
  match ops[n]? with
  | some o => o.after.any fun e => Region.binds md e && e.on == i
  | none => false
theorem Till.take {i : Nat} {oi : Oper} {v : Value} {f : Nat} {L : Array Bool} {a : Act} {w : World} (hi : ops[i]? = some oi)
    (hs : (Region.noSelect ops && Region.free md ops L i && (Region.ready md ops L).contains i && waits md ops n i && !(n == i) && !(L.getD n true)) = true)
    (hQ : ∀ c a w, Q (.panic c) (a.put oi.dst v) w → Q (.panic c) a w) (hy : YieldsIf P ops S oi v a) (hS : S w)
    (h : Till P md ops Q S n f (L.setIfInBounds i true) (a.put oi.dst v) w) : Till P md ops Q S n (f + 1) L a w := by
  simp only [Bool.and_eq_true, Bool.not_eq_true', beq_eq_false_iff_ne] at hs
  obtain ⟨⟨⟨⟨⟨h1, h2⟩, h3⟩, h4⟩, h5⟩, h6⟩ := hs
  unfold waits at h4
  split at h4
  · rename_i on hon
    refine Till.first hi (Region.noSelect_spec h1) hQ hon h5 ?_ f L a w (Region.free_spec hi h2) (by simpa using h3) h6 hy hS h
    obtain ⟨k, hk, hb⟩ := Array.any_eq_true.1 h4
    simp only [Bool.and_eq_true, beq_iff_eq] at hb
    exact ⟨_, Array.getElem_mem hk, hb⟩
  · cases h4
/-- an operation that yields in whatever world may be taken first, whether the store waits for it or not -/
theorem Till.firstPure {i : Nat} {oi : Oper} {v : Value} (hi : ops[i]? = some oi) (hsel : ∀ (j : Nat) (o : Oper) cs b, ops[j]? = some o → o.op ≠ .select cs b)
    (hQ : ∀ c a w, Q (.panic c) (a.put oi.dst v) w → Q (.panic c) a w) (hni : n ≠ i) :
    ∀ (f : Nat) (L : Array Bool) (a : Act) (w : World),
      (∀ j oj, ops[j]? = some oj → j ≠ i → L.getD j true = false → (∀ e ∈ oj.after, Region.binds md e = true → e.on ≠ i) → oi.apart ops oj = true) →
      i ∈ Region.ready md ops L → YieldsIf P ops (fun _ => True) oi v a → (L.getD n true = false → S w) →
      Till P md ops Q S n f (L.setIfInBounds i true) (a.put oi.dst v) w → Till P md ops Q S n (f + 1) L a w := by
  intro f
  induction f with
  | zero =>
    intro L a w _ hr hy hS H
    refine ⟨fun h => (by rw [h] at hr; cases hr), fun j hj => ?_⟩
    by_cases hji : j = i
    · subst hji; exact hy.wpOp hi True.intro ⟨fun h => hS (by rwa [getD_set_ne true (Ne.symm hni)] at h), H⟩
    · have := ready_mono hj hji
      rw [H.1] at this
      cases this
  | succ f ih =>
    intro L a w hfree hr hy hS H
    refine ⟨fun h => (by rw [h] at hr; cases hr), fun j hj => ?_⟩
    by_cases hji : j = i
    · subst hji; exact hy.wpOp hi True.intro ⟨fun h => hS (by rwa [getD_set_ne true (Ne.symm hni)] at h), H⟩
    · have h1 := H.2 j (ready_mono hj hji)
      obtain ⟨hjun, oj, hoj, hall⟩ := mem_ready.1 hj
      have hiun := (mem_ready.1 hr).1
      have hif : L.getD i false = false := by
        simp only [Array.getD_eq_getD_getElem?] at hiun ⊢
        cases h : L[i]? with
        | none => rfl
        | some b => rw [h] at hiun; exact hiun
      have hnot : ∀ e ∈ oj.after, Region.binds md e = true → e.on ≠ i := fun e he hb heq => by
        have h1 := hall e he hb
        rw [heq, hif] at h1
        cases h1
      have hln2 : (L.setIfInBounds j true).getD n true = false → ((L.setIfInBounds i true).setIfInBounds j true).getD n true = false := by
        rw [Array.setIfInBounds_comm _ _ (Ne.symm hji), getD_set_ne true (Ne.symm hni)]
        exact id
      have h2 := wpOp_putIf hoj (hfree j oj hoj hji hjun hnot) (fun cs b => hsel i oi cs b hi) (fun cs b => hsel j oj cs b hoj) hQ hy h1
      refine wpOp_mono (fun a' w' h3 => ⟨fun h => h3.2.1 (hln2 h), ih (L.setIfInBounds j true) a' w' (fun k ok hk hki hun hno => ?_) (ready_mono hr (Ne.symm hji)) h3.1 (fun h => h3.2.1 (hln2 h)) ?_⟩) h2
      · refine hfree k ok hk hki ?_ hno
        by_cases hjk : j = k
        · subst hjk; exact hjun
        · rw [getD_set_ne true hjk] at hun; exact hun
      · rw [Array.setIfInBounds_comm _ _ hji]
        exact h3.2.2
theorem Till.takePure {i : Nat} {oi : Oper} {v : Value} {f : Nat} {L : Array Bool} {a : Act} {w : World} (hi : ops[i]? = some oi)
    (hs : (Region.noSelect ops && Region.free md ops L i && (Region.ready md ops L).contains i && !(n == i)) = true)
    (hQ : ∀ c a w, Q (.panic c) (a.put oi.dst v) w → Q (.panic c) a w) (hy : YieldsIf P ops (fun _ => True) oi v a) (hS : L.getD n true = false → S w)
    (h : Till P md ops Q S n f (L.setIfInBounds i true) (a.put oi.dst v) w) : Till P md ops Q S n (f + 1) L a w := by
  simp only [Bool.and_eq_true, Bool.not_eq_true', beq_eq_false_iff_ne] at hs
  obtain ⟨⟨⟨h1, h2⟩, h3⟩, h4⟩ := hs
  exact Till.firstPure hi (Region.noSelect_spec h1) hQ h4 f L a w (Region.free_spec hi h2) (by simpa using h3) hy hS h
def Each (P : Program) (md : Region.Mode) (ops : Array Oper) (Q : Exit → Act → World → Prop) (S : World → Prop) (n f : Nat) (L : Array Bool) (a : Act) (w : World) (rs : List Nat) : Prop :=
  ∀ i ∈ rs, wpOp P ops Q i (fun a' w' => ((L.setIfInBounds i true).getD n true = false → S w') ∧ Till P md ops Q S n f (L.setIfInBounds i true) a' w') a w
theorem Each.nil {f : Nat} {L : Array Bool} {a : Act} {w : World} : Each P md ops Q S n f L a w [] := fun _ h => by cases h
theorem Each.cons {f : Nat} {L : Array Bool} {a : Act} {w : World} {i : Nat} {o : Oper} {rs : List Nat} (ho : ops[i]? = some o)
    (h : ∀ K' : Act → World → Prop, Shut (∀ a w, ((L.setIfInBounds i true).getD n true = false → S w) → Till P md ops Q S n f (L.setIfInBounds i true) a w → K' a w) → if Region.wanted o (yielded ops a.tmps) = true then Oper.wp P o a w K' Q else K' (a.put o.dst undef) w)
    (hs : Each P md ops Q S n f L a w rs) : Each P md ops Q S n f L a w (i :: rs) := fun j hj => by
  rcases List.mem_cons.1 hj with rfl | hj
  · exact wpOp_step ho (fun K' hK => h K' (fun a w hS hW => hK a w ⟨hS, hW⟩))
  · exact hs j hj
theorem Till.all {rs : List Nat} {f : Nat} {L : Array Bool} {a : Act} {w : World} (hr : Region.ready md ops L = rs) (hne : rs ≠ []) (h : Each P md ops Q S n f L a w rs) : Till P md ops Q S n (f + 1) L a w :=
  ⟨fun h0 => absurd (hr ▸ h0) hne, hr ▸ h⟩
theorem Till.done {L : Array Bool} {a : Act} {w : World} (hr : Region.ready md ops L = []) (h : Q .normal a w) : ∀ f, Till P md ops Q S n f L a w
  | 0 => ⟨hr, h⟩
  | _ + 1 => ⟨fun _ => h, by rw [hr]; simp⟩
end
/-- make, as one step of a region that draws -/
theorem step_make {P : Program} {ops : Array Oper} {o : Oper} {a : Act} {w : World} {K : Act → World → Prop} {Q : Exit → Act → World → Prop} {E : Prop}
    (hg : o.guard = none) (l c : Operand) (t : TypeId) (hop : o.op = Op.makeSlice t l c) (e : TypeId) (i : TypeInfo) (z : Value) (size : Nat) (h1 : P.underlying t = some (.slice e)) (h2 : P.info? e = some i) (h3 : i.zero = some z) (h4 : i.size = size)
    (n : Nat) (hl : a.eval l = .int .i64 n) (hc : a.eval c = .int .i64 n) (b2 : i.bytes * n ≤ 281474976710656) (b3 : n ≤ maxLen)
    (hK : ∀ w', w'.ownsRow w.heap.size e size (.slice (some ⟨w.heap.size, 0, none⟩) n n) n (madeCells z.cells (n * size)).toList → w.grownBy w' none → K (a.put o.dst (.slice (some ⟨w.heap.size, 0, none⟩) n n)) w') :
    if Region.wanted o (yielded ops a.tmps) = true then Oper.wp P o a w K Q else E := by
  rw [if_pos (by simp [Region.wanted, hg])]
  obtain ⟨w', hrun, r1, r2⟩ := run_make_full (P := P) (w := w) w.heap.size t e i z size h1 h2 h3 h4 .i64 .i64 n b2 b3 (Nat.le_refl _)
  unfold Oper.wp
  simp [execOp, hop, hl, hc, hrun, Result.andThen]
  exact hK w' r1 r2
end Go.Proofs.YtfljcfdfgojdoaaGreatDoor.Im
