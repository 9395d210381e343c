/-
  A map in memory, and a slice of maps; the contract of mapRow.
  A region that draws its order and ends in a store: S is asked only as long as the store (number n) has not come up. So the loads of the very cell that is stored may be taken first.
  An item in memory; the contracts of named, def, token and mapItem. (Printed by genD.py.)
  The contract of rule. (Printed by genE.py.)
  The contracts of kinds (a map of four functions, by their words) and of file.
  A slice of items in memory; the contract of file. (Printed by genG.py.)
  The contract of parse.File: it hands back what the plain function parseFile says, for a text of no more than 65536 bytes.
  SameRe returns true at two expressions in memory that are read as one.
-/
import Derived.Test.YtfljcfdfgojdoaaGreatDoorFa06
import Derived.Deep.RegionHeld3
import Derived.Deep.AppendLies
import Derived.OwnWalk
import Derived.Deep.DeepCutAuto
import Derived.Deep.RegionWith
import Derived.Maps.Own
import Derived.WideMake
import Derived.Great.Walk
import Derived.StillTailTactics
namespace Go.Proofs.YtfljcfdfgojdoaaGreatDoor
open Go.RowKit Go.Lib

/-- the fourteen cells of a map -/
abbrev mpC (k rk : Int) (rx : List B) (rs : Se) (rv : Value) (rn rm : Int) (o : List B) (v : Value) (mn mx : Int) : Array Value :=
  #[.int .i64 k, .int .i64 rk, .string ⟨rx.toArray⟩, .int .u64 rs.a, .int .u64 rs.b, .int .u64 rs.c, .int .u64 rs.d, rv, .int .i64 rn, .int .i64 rm, .string ⟨o.toArray⟩, v, .int .i64 mn, .int .i64 mx]
abbrev mpZ : Array Value := #[.int .i64 0, .int .i64 0, .string ⟨#[]⟩, .int .u64 0, .int .u64 0, .int .u64 0, .int .u64 0, .slice none 0 0, .int .i64 0, .int .i64 0, .string ⟨#[]⟩, .slice none 0 0, .int .i64 0, .int .i64 0]
theorem info44 : (Tryz.prog.info? 36).map (·.size) = some 14 := by kernel_rfl
mutual
/-- fourteen cells read as a map, whose parts lie in blocks that F holds of -/
def MpIn (F : Nat → Prop) (w : World) : Mp → Array Value → Prop
  | .mk k r o ps mn mx, cs => ∃ rk rx rs rv rn rm ad cap xs, cs = mpC k rk rx rs rv rn rm o (.slice ad ps.length cap) mn mx ∧ ReIn F w r (reC rk rx rs rv rn rm) ∧ w.ownsRow 0 36 14 (.slice ad ps.length cap) ps.length xs ∧ (∀ g, (Value.slice ad ps.length cap).ownBlock = some g → F g) ∧ MpsIn F w ps xs
def MpsIn (F : Nat → Prop) (w : World) : List Mp → List Value → Prop
  | [], xs => xs = []
  | r :: rs, xs => ∃ cs rest, xs = cs.toList ++ rest ∧ MpIn F w r cs ∧ MpsIn F w rs rest
end
abbrev MpAt (base : Nat) : World → Mp → Array Value → Prop := MpIn fun g => base ≤ g
mutual
theorem MpIn.frame {F F' : Nat → Prop} {w w' : World} (hF : ∀ g, F g → g < w.heap.size → F' g) (hf : ∀ g, F g → g < w.heap.size → w'.heap[g]? = w.heap[g]?) : ∀ {r : Mp} {cs : Array Value}, MpIn F w r cs → MpIn F' w' r cs
  | .mk k r o ps mn mx, cs, h => by
    unfold MpIn at h ⊢
    obtain ⟨rk, rx, rs, rv, rn, rm, ad, cap, xs, h1, h0, h2, h3, h4⟩ := h
    refine ⟨rk, rx, rs, rv, rn, rm, ad, cap, xs, h1, h0.frame hF hf, ownsRow_same h2 (fun _ _ => Nat.zero_le _) (fun g hg hl => hf g (h3 g hg) hl), fun g hg => ?_, MpsIn.frame hF hf h4⟩
    rcases h2.2 with ⟨hv, _⟩ | ⟨g', cap', cur, hv, _, hgg, _⟩
    · rw [hv] at hg; simp [Value.ownBlock] at hg
    · have hg0 := hg
      rw [hv] at hg
      simp [Value.ownBlock] at hg
      subst hg
      exact hF _ (h3 _ hg0) (Array.getElem?_eq_some_iff.1 hgg).1
theorem MpsIn.frame {F F' : Nat → Prop} {w w' : World} (hF : ∀ g, F g → g < w.heap.size → F' g) (hf : ∀ g, F g → g < w.heap.size → w'.heap[g]? = w.heap[g]?) : ∀ {l : List Mp} {xs : List Value}, MpsIn F w l xs → MpsIn F' w' l xs
  | [], xs, h => by unfold MpsIn at h ⊢; exact h
  | r :: rs, xs, h => by
    unfold MpsIn at h ⊢
    obtain ⟨cs, rest, h1, h2, h3⟩ := h
    exact ⟨cs, rest, h1, MpIn.frame hF hf h2, MpsIn.frame hF hf h3⟩
end
theorem MpIn.kept {bp base b2 : Nat} {w w' : World} {r : Mp} {cs : Array Value} (h : MpAt base w r cs) (hk : Kept bp w w') (hb : bp < base) (h2 : b2 ≤ base) : MpAt b2 w' r cs :=
  h.frame (fun _ hg _ => Nat.le_trans h2 hg) (fun g hg hl => hk.block g hl (fun e => by have := Option.some.inj e; omega))
theorem MpIn.up {base b2 : Nat} {w : World} {r : Mp} {cs : Array Value} (h : MpAt base w r cs) (hb : b2 ≤ base) : MpAt b2 w r cs := h.frame (fun _ hg _ => Nat.le_trans hb hg) (fun _ _ _ => rfl)
theorem MpIn.cells {F : Nat → Prop} {w : World} {r : Mp} {cs : Array Value} (h : MpIn F w r cs) : ∃ k rk rx rs ra rl rc rn rm o ad n cap mn mx, cs = mpC k rk rx rs (.slice ra rl rc) rn rm o (.slice ad n cap) mn mx := by
  obtain ⟨k, x, o, ps, mn, mx⟩ := r
  unfold MpIn at h
  obtain ⟨rk, rx, rs, rv, rn, rm, ad, cap, xs, rfl, h0, _⟩ := h
  obtain ⟨_, _, _, ra, rl, rc, _, _, he⟩ := h0.cells
  have e6 : rv = .slice ra rl rc := by
    have := congrArg (fun c : Array Value => c[6]?) he
    simpa using this
  subst e6
  exact ⟨k, rk, rx, rs, ra, rl, rc, rn, rm, o, ad, _, cap, mn, mx, rfl⟩
/-- a map of one expression -/
theorem MpIn.leaf {F : Nat → Prop} {w : World} {r : Re} {rk : Int} {rx : List B} {rs : Se} {rv : Value} {rn rm : Int} (h : ReIn F w r (reC rk rx rs rv rn rm)) (k : Int) (o : List B) (mn mx : Int) : MpIn F w (.mk k r o [] mn mx) (mpC k rk rx rs rv rn rm o (.slice none 0 0) mn mx) := by
  unfold MpIn
  exact ⟨rk, rx, rs, rv, rn, rm, none, 0, [], rfl, h, World.ownsRow_nil _ _ _ _, fun g hg => by simp [Value.ownBlock] at hg, by unfold MpsIn; rfl⟩

/-- a slice of maps of the call's own -/
structure Ms (base : Nat) (w : World) (l : List Mp) (v : Value) : Prop where
  own : ∃ xs, w.ownsRow base 36 14 v l.length xs ∧ MpsIn (fun g => base ≤ g ∧ some g ≠ v.ownBlock) w l xs
theorem Ms.kept {bp base : Nat} {w w' : World} {l : List Mp} {v : Value} (h : Ms base w l v) (hk : Kept bp w w') (hb : bp < base) : Ms base w' l v := by
  obtain ⟨xs, h1, h3⟩ := h.own
  exact ⟨xs, ownsRow_same h1 (fun g hg => own_block h1 hg) (fun g hg hl => hk.block g hl (fun e => by have := Option.some.inj e; have := own_block h1 hg; omega)),
    h3.frame (fun _ hg _ => hg) (fun g hg hl => hk.block g hl (fun e => by have := Option.some.inj e; have := hg.1; omega))⟩
end Go.Proofs.YtfljcfdfgojdoaaGreatDoor

namespace Go.Proofs.YtfljcfdfgojdoaaGreatDoor.Im
open Go

section
variable {P : Program} {ops : Array Oper} {Q : Exit → Act → World → Prop} {md : Region.Mode} {S : World → Prop} {n : Nat}
def Till (P : Program) (md : Region.Mode) (ops : Array Oper) (Q : Exit → Act → World → Prop) (S : World → Prop) (n : Nat) : Nat → Array Bool → Act → World → Prop
  | 0, L, a, w => Region.ready md ops L = [] ∧ Q .normal a w
  | f + 1, L, a, w => (Region.ready md ops L = [] → Q .normal a w) ∧
      ∀ i ∈ Region.ready md ops L, wpOp P ops Q i (fun a' w' => ((L.setIfInBounds i true).getD n true = false → S w') ∧ Till P md ops Q S n f (L.setIfInBounds i true) a' w') a w
theorem Till.any : ∀ {f : Nat} {L : Array Bool} {a : Act} {w : World}, Till P md ops Q S n f L a w → wpAny P md ops Q f L a w
  | 0, _, _, _, h => h
  | _ + 1, _, _, _, h => ⟨h.1, fun i hi => wpOp_mono (fun _ _ h' => Till.any h'.2) (h.2 i hi)⟩
theorem Till.start {id : Nat} {a : Act} {w : World} (hm : P.follows .mixedOrders = true) (h : Till P .any ops Q S n ops.size (Array.replicate ops.size false) a w.drew) : (Code.region id ops true).wp P Q a w :=
  wp_region_any hm h.any
theorem Till.first {i : Nat} {oi on : Oper} {v : Value} (hi : ops[i]? = some oi) (hsel : ∀ (j : Nat) (o : Oper) cs b, ops[j]? = some o → o.op ≠ .select cs b)
    (hQ : ∀ c a w, Q (.panic c) (a.put oi.dst v) w → Q (.panic c) a w) (hon : ops[n]? = some on) (hni : n ≠ i) (hwait : ∃ e ∈ on.after, Region.binds md e = true ∧ e.on = i) :
    ∀ (f : Nat) (L : Array Bool) (a : Act) (w : World),
      (∀ j oj, ops[j]? = some oj → j ≠ i → L.getD j true = false → (∀ e ∈ oj.after, Region.binds md e = true → e.on ≠ i) → oi.apart ops oj = true) →
      i ∈ Region.ready md ops L → L.getD n true = false → YieldsIf P ops S oi v a → S w →
      Till P md ops Q S n f (L.setIfInBounds i true) (a.put oi.dst v) w → Till P md ops Q S n (f + 1) L a w := by
  intro f
  induction f with
  | zero =>
    intro L a w _ hr hln hy hS H
    refine ⟨fun h => (by rw [h] at hr; cases hr), fun j hj => ?_⟩
    by_cases hji : j = i
    · subst hji; exact hy.wpOp hi hS ⟨fun _ => hS, H⟩
    · have := ready_mono hj hji
      rw [H.1] at this
      cases this
  | succ f ih =>
    intro L a w hfree hr hln hy hS H
    refine ⟨fun h => (by rw [h] at hr; cases hr), fun j hj => ?_⟩
    by_cases hji : j = i
    · subst hji; exact hy.wpOp hi hS ⟨fun _ => hS, H⟩
    · have h1 := H.2 j (ready_mono hj hji)
      obtain ⟨hjun, oj, hoj, hall⟩ := mem_ready.1 hj
      have hiun := (mem_ready.1 hr).1
      have hif : L.getD i false = false := by
        simp only [Array.getD_eq_getD_getElem?] at hiun ⊢
        cases h : L[i]? with
        | none => rfl
        | some b => rw [h] at hiun; exact hiun
      have hnot : ∀ e ∈ oj.after, Region.binds md e = true → e.on ≠ i := fun e he hb heq => by
        have h1 := hall e he hb
        rw [heq, hif] at h1
        cases h1
      have hjn : j ≠ n := fun h => by
        subst h
        rw [hon] at hoj; cases hoj
        obtain ⟨e, he, hb, heq⟩ := hwait
        exact hnot e he hb heq
      have hln' : (L.setIfInBounds j true).getD n true = false := by rw [getD_set_ne true hjn]; exact hln
      have hln2 : ((L.setIfInBounds i true).setIfInBounds j true).getD n true = false := by
        rw [getD_set_ne true hjn, getD_set_ne true (Ne.symm hni)]; exact hln
      have h2 := wpOp_putIf hoj (hfree j oj hoj hji hjun hnot) (fun cs b => hsel i oi cs b hi) (fun cs b => hsel j oj cs b hoj) hQ hy h1
      refine wpOp_mono (fun a' w' h3 => ⟨fun _ => h3.2.1 hln2, ih (L.setIfInBounds j true) a' w' (fun k ok hk hki hun hno => ?_) (ready_mono hr (Ne.symm hji)) hln' h3.1 (h3.2.1 hln2) ?_⟩) h2
      · refine hfree k ok hk hki ?_ hno
        by_cases hjk : j = k
        · subst hjk; exact hjun
        · rw [getD_set_ne true hjk] at hun; exact hun
      · rw [Array.setIfInBounds_comm _ _ hji]
        exact h3.2.2
/-- does operation n wait for operation i? -/
def waits (md : Region.Mode) (ops : Array Oper) (n i : Nat) : Bool :=
  match ops[n]? with
  | some o => o.after.any fun e => Region.binds md e && e.on == i
  | none => false
theorem Till.take {i : Nat} {oi : Oper} {v : Value} {f : Nat} {L : Array Bool} {a : Act} {w : World} (hi : ops[i]? = some oi)
    (hs : (Region.noSelect ops && Region.free md ops L i && (Region.ready md ops L).contains i && waits md ops n i && !(n == i) && !(L.getD n true)) = true)
    (hQ : ∀ c a w, Q (.panic c) (a.put oi.dst v) w → Q (.panic c) a w) (hy : YieldsIf P ops S oi v a) (hS : S w)
    (h : Till P md ops Q S n f (L.setIfInBounds i true) (a.put oi.dst v) w) : Till P md ops Q S n (f + 1) L a w := by
  simp only [Bool.and_eq_true, Bool.not_eq_true', beq_eq_false_iff_ne] at hs
  obtain ⟨⟨⟨⟨⟨h1, h2⟩, h3⟩, h4⟩, h5⟩, h6⟩ := hs
  unfold waits at h4
  split at h4
  · rename_i on hon
    refine Till.first hi (Region.noSelect_spec h1) hQ hon h5 ?_ f L a w (Region.free_spec hi h2) (by simpa using h3) h6 hy hS h
    obtain ⟨k, hk, hb⟩ := Array.any_eq_true.1 h4
    simp only [Bool.and_eq_true, beq_iff_eq] at hb
    exact ⟨_, Array.getElem_mem hk, hb⟩
  · cases h4
def Each (P : Program) (md : Region.Mode) (ops : Array Oper) (Q : Exit → Act → World → Prop) (S : World → Prop) (n f : Nat) (L : Array Bool) (a : Act) (w : World) (rs : List Nat) : Prop :=
  ∀ i ∈ rs, wpOp P ops Q i (fun a' w' => ((L.setIfInBounds i true).getD n true = false → S w') ∧ Till P md ops Q S n f (L.setIfInBounds i true) a' w') a w
theorem Each.nil {f : Nat} {L : Array Bool} {a : Act} {w : World} : Each P md ops Q S n f L a w [] := fun _ h => by cases h
theorem Each.cons {f : Nat} {L : Array Bool} {a : Act} {w : World} {i : Nat} {o : Oper} {rs : List Nat} (ho : ops[i]? = some o)
    (h : ∀ K' : Act → World → Prop, Shut (∀ a w, ((L.setIfInBounds i true).getD n true = false → S w) → Till P md ops Q S n f (L.setIfInBounds i true) a w → K' a w) → if Region.wanted o (yielded ops a.tmps) = true then Oper.wp P o a w K' Q else K' (a.put o.dst undef) w)
    (hs : Each P md ops Q S n f L a w rs) : Each P md ops Q S n f L a w (i :: rs) := fun j hj => by
  rcases List.mem_cons.1 hj with rfl | hj
  · exact wpOp_step ho (fun K' hK => h K' (fun a w hS hW => hK a w ⟨hS, hW⟩))
  · exact hs j hj
theorem Till.all {rs : List Nat} {f : Nat} {L : Array Bool} {a : Act} {w : World} (hr : Region.ready md ops L = rs) (hne : rs ≠ []) (h : Each P md ops Q S n f L a w rs) : Till P md ops Q S n (f + 1) L a w :=
  ⟨fun h0 => absurd (hr ▸ h0) hne, hr ▸ h⟩
theorem Till.done {L : Array Bool} {a : Act} {w : World} (hr : Region.ready md ops L = []) (h : Q .normal a w) : ∀ f, Till P md ops Q S n f L a w
  | 0 => ⟨hr, h⟩
  | _ + 1 => ⟨fun _ => h, by rw [hr]; simp⟩
end
end Go.Proofs.YtfljcfdfgojdoaaGreatDoor.Im

namespace Go.Proofs.YtfljcfdfgojdoaaGreatDoor
open Go.RowKit Go.Lib

/-- the cells of an expression, and of a map, as one thing each -/
structure Rw where
  k : Int
  x : List B
  s : Se
  ad : Option Addr
  n : Nat
  cap : Nat
  mn : Int
  mx : Int
structure Mw where
  k : Int
  r : Rw
  o : List B
  ad : Option Addr
  n : Nat
  cap : Nat
  mn : Int
  mx : Int
abbrev Rw.cs (r : Rw) : Array Value := reC r.k r.x r.s (.slice r.ad r.n r.cap) r.mn r.mx
abbrev Mw.cs (m : Mw) : Array Value := mpC m.k m.r.k m.r.x m.r.s (.slice m.r.ad m.r.n m.r.cap) m.r.mn m.r.mx m.o (.slice m.ad m.n m.cap) m.mn m.mx
abbrev Rw.zero : Rw := ⟨0, [], Se.none, none, 0, 0, 0, 0⟩
abbrev Mw.zero : Mw := ⟨0, Rw.zero, [], none, 0, 0, 0, 0⟩
/-- the forty-six cells of an item -/
def itC (k : Int) (nm : List B) (r : Rw) (m : Mw) (o b : List B) (ar : Bool) (l q : Rw) : Array Value :=
  #[.int .i64 k, .string ⟨nm.toArray⟩,
    .int .i64 r.k, .string ⟨r.x.toArray⟩, .int .u64 r.s.a, .int .u64 r.s.b, .int .u64 r.s.c, .int .u64 r.s.d, .slice r.ad r.n r.cap, .int .i64 r.mn, .int .i64 r.mx,
    .int .i64 m.k, .int .i64 m.r.k, .string ⟨m.r.x.toArray⟩, .int .u64 m.r.s.a, .int .u64 m.r.s.b, .int .u64 m.r.s.c, .int .u64 m.r.s.d, .slice m.r.ad m.r.n m.r.cap, .int .i64 m.r.mn, .int .i64 m.r.mx, .string ⟨m.o.toArray⟩, .slice m.ad m.n m.cap, .int .i64 m.mn, .int .i64 m.mx,
    .string ⟨o.toArray⟩, .string ⟨b.toArray⟩, .bool ar,
    .int .i64 l.k, .string ⟨l.x.toArray⟩, .int .u64 l.s.a, .int .u64 l.s.b, .int .u64 l.s.c, .int .u64 l.s.d, .slice l.ad l.n l.cap, .int .i64 l.mn, .int .i64 l.mx,
    .int .i64 q.k, .string ⟨q.x.toArray⟩, .int .u64 q.s.a, .int .u64 q.s.b, .int .u64 q.s.c, .int .u64 q.s.d, .slice q.ad q.n q.cap, .int .i64 q.mn, .int .i64 q.mx]
abbrev itZ : Array Value := itC 0 [] Rw.zero Mw.zero [] [] false Rw.zero Rw.zero
theorem info46 : (Tryz.prog.info? 65).map (·.size) = some 46 := by kernel_rfl
theorem ReIn.rw {F : Nat → Prop} {w : World} {r : Re} {cs : Array Value} (h : ReIn F w r cs) : ∃ y : Rw, cs = y.cs := by
  obtain ⟨k, x, s, ad, n, cap, mn, mx, e⟩ := h.cells
  exact ⟨⟨k, x, s, ad, n, cap, mn, mx⟩, e⟩
theorem MpIn.mw {F : Nat → Prop} {w : World} {r : Mp} {cs : Array Value} (h : MpIn F w r cs) : ∃ y : Mw, cs = y.cs := by
  obtain ⟨k, rk, rx, rs, ra, rl, rc, rn, rm, o, ad, n, cap, mn, mx, e⟩ := h.cells
  exact ⟨⟨k, ⟨rk, rx, rs, ra, rl, rc, rn, rm⟩, o, ad, n, cap, mn, mx⟩, e⟩
structure ItIn (F : Nat → Prop) (w : World) (x : It) (cs : Array Value) : Prop where
  ex : ∃ (r : Rw) (m : Mw) (l q : Rw), cs = itC x.kind x.name r m x.out x.by_ x.around l q ∧ ReIn F w x.re r.cs ∧ MpIn F w x.map m.cs ∧ ReIn F w x.left l.cs ∧ ReIn F w x.right q.cs
theorem ItIn.frame {F F' : Nat → Prop} {w w' : World} (hF : ∀ g, F g → g < w.heap.size → F' g) (hf : ∀ g, F g → g < w.heap.size → w'.heap[g]? = w.heap[g]?) {x : It} {cs : Array Value} (h : ItIn F w x cs) : ItIn F' w' x cs := by
  obtain ⟨r, m, l, q, e, h1, h2, h3, h4⟩ := h.ex
  exact ⟨r, m, l, q, e, h1.frame hF hf, h2.frame hF hf, h3.frame hF hf, h4.frame hF hf⟩
/-- a row with some of its cells turned -/
def putAt : Array Value → Nat → List Value → Array Value
  | a, _, [] => a
  | a, o, v :: r => putAt (a.setIfInBounds o v) (o + 1) r
theorem itC_size (k : Int) (nm : List B) (r : Rw) (m : Mw) (o b : List B) (ar : Bool) (l q : Rw) : (itC k nm r m o b ar l q).size = 46 := rfl
theorem itC_one (k : Int) (nm : List B) (r : Rw) (m : Mw) (o b : List B) (ar : Bool) (l q : Rw) : (itC k nm r m o b ar l q).toList.all (·.oneCell') = true := rfl
theorem setRow_self {w : World} {g : Nat} {old : Array Value} {t : TypeId} (hg : w.heap[g]? = some (.cells old t (0, 0))) : w = w.setRow g old := by
  obtain ⟨hl, hg'⟩ := Array.getElem?_eq_some_iff.1 hg
  cases w with
  | mk heap tape drawn os output =>
    unfold World.setRow
    congr 1
    apply Array.ext
    · simp
    · intro k h1 h2
      simp only [Array.getElem_modify]
      split
      · rename_i e
        subst e
        simp only at hg'
        rw [hg']
      · rfl
theorem setCells_blk {g : Nat} {t : TypeId} : ∀ (vs : List Value) (o : Nat) (w : World) (old : Array Value), w.heap[g]? = some (.cells old t (0, 0)) → w.setCells g o vs = w.setRow g (putAt old o vs)
  | [], o, w, old, h => setRow_self h
  | v :: r, o, w, old, h => by
    have h1 : (w.setRow g (old.setIfInBounds o v)).heap[g]? = some (.cells (old.setIfInBounds o v) t (0, 0)) := setRow_heap h _
    rw [World.setCells, setCell_eq_setRow w g o old t (0, 0) v h, setCells_blk r (o + 1) _ _ h1, setRow_setRow]
    rfl
theorem there_blk {w : World} {g : Nat} {t : TypeId} {old : Array Value} (h : w.heap[g]? = some (.cells old t (0, 0))) {o n : Nat} (hn : o + n ≤ old.size) : w.there g o n := fun j hj => by
  constructor
  · have : w.cell? ⟨g, o + j, none⟩ = some (old[o + j]'(by omega)) := cell_of_row _ _ (o + j) _ _ _ h |>.trans (by simp [show o + j < old.size by omega])
    rw [this]; rfl
  · exact frozen_of_row _ _ _ _ _ h
/-- a store of a struct into a part of a block that is known whole -/
theorem wpList_store_at {P : Program} {ops : Array Oper} {rest : List Oper} {o : Oper} {a : Act} {w : World} {Q : Exit → Act → World → Prop} (hgd : o.guard = none) (ty : TypeId) (x y : Operand) (ho : o.op = .store ty x y)
    (n : Nat) (hi : (P.info? ty).map (·.size) = some n) (g : Nat) (t : TypeId) (old : Array Value) (hg : w.heap[g]? = some (.cells old t (0, 0))) (off : Nat) (hold : off + n ≤ old.size)
    (cells : Array Value) (hx : a.eval x = .pointer (some ⟨g, off, none⟩)) (hy : a.eval y = .agg cells) (hn : cells.size = n) (h1 : cells.toList.all (·.oneCell') = true)
    (new : Array Value) (hnew : putAt old off cells.toList = new)
    (h : wpList P ops Q rest (a.put o.dst undef) (w.setRow g new)) : wpList P ops Q (o :: rest) a w := by
  subst hn
  subst hnew
  refine wpList_store_mid hgd ty x y ho g off cells hx hy (there_blk hg hold) hi (by rw [← Array.all_toList]; exact h1) ?_
  rw [setCells_blk _ _ _ _ hg]
  exact h
theorem Kept.setRow {bp g : Nat} {a w : World} (h : Kept bp a w) (hg : a.heap.size ≤ g) (cs : Array Value) : Kept bp a (w.setRow g cs) :=
  ⟨h.os, h.tape, h.output, by rw [size_setRow]; exact h.size, fun k hk hne => (setRow_other cs (by omega)).trans (h.block k hk hne)⟩

/-- a whole struct goes into the block that was made just now -/
theorem alloc_setRow (w : World) (old cs : Array Value) (t : TypeId) : (w.alloc (.cells old t)).setRow w.heap.size cs = w.alloc (.cells cs t) := by
  cases w with
  | mk heap tape drawn os output =>
    unfold World.setRow World.alloc
    congr 1
    apply Array.ext
    · simp
    · intro k h1 h2
      simp only [Array.getElem_modify, Array.getElem_push]
      split
      · rename_i e
        subst e
        simp
      · rename_i e
        have hk : k < heap.size := by simp at h2; omega
        simp [hk]
theorem wpList_store_new {P : Program} {ops : Array Oper} {rest : List Oper} {o : Oper} {a : Act} {w : World} {Q : Exit → Act → World → Prop} (hgd : o.guard = none) (ty : TypeId) (x y : Operand) (ho : o.op = .store ty x y)
    (n : Nat) (hi : (P.info? ty).map (·.size) = some n) (t : TypeId) (old : Array Value) (hold : old.size = n)
    (cells : Array Value) (hx : a.eval x = .pointer (some ⟨w.heap.size, 0, none⟩)) (hy : a.eval y = .agg cells) (hn : cells.size = n) (h1 : cells.toList.all (·.oneCell') = true)
    (h : wpList P ops Q rest (a.put o.dst undef) (w.alloc (.cells cells t))) : wpList P ops Q (o :: rest) a (w.alloc (.cells old t)) :=
  wpList_store_blk hgd ty x y ho n hi w.heap.size t old (heap_alloc_new _ _) hold cells hx hy hn h1 (by rw [alloc_setRow]; exact h)

end Go.Proofs.YtfljcfdfgojdoaaGreatDoor

namespace Go.Proofs.YtfljcfdfgojdoaaGreatDoor
open Go.RowKit Go.Lib

theorem it_cells {w : World} {g : Nat} {k : Int} {nm : List B} {r : Rw} {m : Mw} {o b : List B} {ar : Bool} {l q : Rw} (h : w.heap[g]? = some (.cells (itC k nm r m o b ar l q) 65 (0, 0))) :
    (w.cell? ⟨g, 25, none⟩ = some (.string ⟨o.toArray⟩) ∧ w.frozen? ⟨g, 25, none⟩ = false) ∧ (w.cell? ⟨g, 26, none⟩ = some (.string ⟨b.toArray⟩) ∧ w.frozen? ⟨g, 26, none⟩ = false) ∧ (w.cell? ⟨g, 27, none⟩ = some (.bool ar) ∧ w.frozen? ⟨g, 27, none⟩ = false) :=
  ⟨⟨cell_of_row _ _ 25 _ _ _ h, frozen_of_row _ _ 25 _ _ h⟩, ⟨cell_of_row _ _ 26 _ _ _ h, frozen_of_row _ _ 26 _ _ h⟩, ⟨cell_of_row _ _ 27 _ _ _ h, frozen_of_row _ _ 27 _ _ h⟩⟩
end Go.Proofs.YtfljcfdfgojdoaaGreatDoor

namespace Go.Proofs.YtfljcfdfgojdoaaGreatDoor
open Go.RowKit Go.Lib

abbrev fn (k : Nat) : Value := .func (.func k) #[] #[]
end Go.Proofs.YtfljcfdfgojdoaaGreatDoor

namespace Go.Proofs.YtfljcfdfgojdoaaGreatDoor
open Go.RowKit Go.Lib

def ItsIn (F : Nat → Prop) (w : World) : List It → List Value → Prop
  | [], xs => xs = []
  | x :: r, xs => ∃ cs rest, xs = cs.toList ++ rest ∧ ItIn F w x cs ∧ ItsIn F w r rest
theorem ItsIn.frame {F F' : Nat → Prop} {w w' : World} (hF : ∀ g, F g → g < w.heap.size → F' g) (hf : ∀ g, F g → g < w.heap.size → w'.heap[g]? = w.heap[g]?) : ∀ {l : List It} {xs : List Value}, ItsIn F w l xs → ItsIn F' w' l xs
  | [], _, h => h
  | _ :: _, _, ⟨cs, rest, h1, h2, h3⟩ => ⟨cs, rest, h1, h2.frame hF hf, h3.frame hF hf⟩
/-- a slice of items of the call's own -/
structure Its (base : Nat) (w : World) (l : List It) (v : Value) : Prop where
  own : ∃ xs, w.ownsRow base 65 46 v l.length xs ∧ ItsIn (fun g => base ≤ g ∧ some g ≠ v.ownBlock) w l xs
theorem Its.nil (base : Nat) (w : World) : Its base w [] (.slice none 0 0) := ⟨[], World.ownsRow_nil _ _ _ _, rfl⟩
theorem Its.kept {bp base b2 : Nat} {w w' : World} {l : List It} {v : Value} (h : Its base w l v) (hk : Kept bp w w') (hb : bp < base) (h2 : b2 ≤ base) : Its b2 w' l v := by
  obtain ⟨xs, h1, h3⟩ := h.own
  exact ⟨xs, ownsRow_same h1 (fun g hg => Nat.le_trans h2 (own_block h1 hg)) (fun g hg hl => hk.block g hl (fun e => by have := Option.some.inj e; have := own_block h1 hg; omega)),
    h3.frame (fun _ hg _ => ⟨Nat.le_trans h2 hg.1, hg.2⟩) (fun g hg hl => hk.block g hl (fun e => by have := Option.some.inj e; have := hg.1; omega))⟩
theorem own_lt' {w : World} {base e size n : Nat} {v : Value} {xs : List Value} (h : w.ownsRow base e size v n xs) {g : Nat} (hg : v.ownBlock = some g) : g < w.heap.size := by
  rcases h.2 with ⟨rfl, h0⟩ | ⟨g', cap, cur, rfl, hbg, hgg, rest⟩
  · simp [Value.ownBlock] at hg
  · simp [Value.ownBlock] at hg
    subst hg
    exact (Array.getElem?_eq_some_iff.1 hgg).1
theorem itC_len (k : Int) (nm : List B) (r : Rw) (m : Mw) (o b : List B) (ar : Bool) (l q : Rw) : (itC k nm r m o b ar l q).toList.length = 1 * 46 := rfl
end Go.Proofs.YtfljcfdfgojdoaaGreatDoor

namespace Go.Proofs.YtfljcfdfgojdoaaGreatDoor
open Go.RowKit Go.Lib

theorem Its.frame {base b2 : Nat} {w w' : World} {l : List It} {v : Value} (h : Its base w l v) (h2 : b2 ≤ base) (hf : ∀ g, base ≤ g → g < w.heap.size → w'.heap[g]? = w.heap[g]?) : Its b2 w' l v := by
  obtain ⟨xs, h1, h3⟩ := h.own
  exact ⟨xs, ownsRow_same h1 (fun g hg => Nat.le_trans h2 (own_block h1 hg)) (fun g hg hl => hf g (own_block h1 hg) hl), h3.frame (fun _ hg _ => ⟨Nat.le_trans h2 hg.1, hg.2⟩) (fun g hg hl => hf g hg.1 hl)⟩

end Go.Proofs.YtfljcfdfgojdoaaGreatDoor

namespace Go.Proofs.YtfljcfdfgojdoaaGreatDoor
open Go.RowKit Go.Lib

theorem eq24 (a b c d a' b' c' d' : Int) (w : World) : (Op.equalIn 10000 30 (.agg #[.int .u64 a, .int .u64 b, .int .u64 c, .int .u64 d]) (.agg #[.int .u64 a', .int .u64 b', .int .u64 c', .int .u64 d'])).run Tryz.prog w = .ok (a == a' && b == b' && c == c' && d == d') w := by
  have u3 := Tryz.underlying28
  have a3 := Tryz.isAgg22
  have z3 := Tryz.sizeOf22
  rw [show (10000 : Nat) = 9999 + 1 from rfl, Op.equalIn]
  simp only [Sem.run_bind, run_underlying Tryz.underlying30, Result.andThen_ok]
  simp only [Std.Legacy.Range.forIn_eq_forIn_range', Std.Legacy.Range.size, Nat.sub_zero, Nat.add_sub_cancel, Nat.div_one, List.range'_succ, List.range'_zero, List.forIn_cons, List.forIn_nil]
  go_simp
  by_cases h1 : a = a' <;> by_cases h2 : b = b' <;> by_cases h3 : c = c' <;> by_cases h4 : d = d' <;> simp [h1, h2, h3, h4]
theorem PartsIn.at {F : Nat → Prop} {w : World} : ∀ {l : List Re} {xs : List Value} {i : Nat} {r : Re}, PartsIn F w l xs → l[i]? = some r → ∃ k x s ad n cap mn mx, ReIn F w r (reC k x s (.slice ad n cap) mn mx) ∧ ∀ j v, (reC k x s (.slice ad n cap) mn mx).toList[j]? = some v → xs[i * 9 + j]? = some v
  | [], xs, i, r, h, hi => by simp at hi
  | r0 :: rs, xs, 0, r, h, hi => by
    simp at hi; subst hi
    unfold PartsIn at h
    obtain ⟨cs, rest, rfl, h1, h2⟩ := h
    obtain ⟨k, x, s, ad, n, cap, mn, mx, rfl⟩ := h1.cells
    refine ⟨k, x, s, ad, n, cap, mn, mx, h1, fun j v hv => ?_⟩
    rw [Nat.zero_mul, Nat.zero_add, List.getElem?_append_left (List.getElem?_eq_some_iff.1 hv).1]
    exact hv
  | r0 :: rs, xs, i + 1, r, h, hi => by
    unfold PartsIn at h
    obtain ⟨cs, rest, rfl, h1, h2⟩ := h
    obtain ⟨k, x, s, ad, n, cap, mn, mx, h3, h4⟩ := PartsIn.at (i := i) (r := r) h2 (by simpa using hi)
    obtain ⟨k', x', s', ad', n', cap', mn', mx', rfl⟩ := h1.cells
    refine ⟨k, x, s, ad, n, cap, mn, mx, h3, fun j v hv => ?_⟩
    have e : (i + 1) * 9 + j = (reC k' x' s' (.slice ad' n' cap') mn' mx').toList.length + (i * 9 + j) := by simp; omega
    rw [e, List.getElem?_append_right (Nat.le_add_right _ _), Nat.add_sub_cancel_left]
    exact h4 j v hv

/-- the parts of a tree, as cells of a block -/
theorem ReIn.open {F : Nat → Prop} {w : World} {k : Int} {x : List B} {s : Se} {ps : List Re} {mn mx : Int} {cs : Array Value} (h : ReIn F w (.mk k x s ps mn mx) cs) :
    ∃ ad cap, cs = reC k x s (.slice ad ps.length cap) mn mx ∧ ((ps = [] ∧ ad = none) ∨ ∃ g, ad = some ⟨g, 0, none⟩ ∧ g < w.heap.size ∧ ps.length ≤ cap ∧ cap ≤ maxLen ∧
      ∀ i r, ps[i]? = some r → ∃ k x s ad n cap mn mx, ReIn F w r (reC k x s (.slice ad n cap) mn mx) ∧ ∀ j v, (reC k x s (.slice ad n cap) mn mx).toList[j]? = some v → w.cell? ⟨g, i * 9 + j, none⟩ = some v) := by
  unfold ReIn at h
  obtain ⟨ad, cap, xs, rfl, ho, _, hp⟩ := h
  refine ⟨ad, cap, rfl, ?_⟩
  rcases ho.2 with ⟨hv, hn⟩ | ⟨g, cap', cur, hv, _, hg, hn, hm, hsz, htk⟩
  · injection hv with h1 h2 h3
    exact .inl ⟨List.length_eq_zero_iff.1 hn, h1⟩
  · injection hv with h1 h2 h3
    subst h1
    subst h3
    refine .inr ⟨g, rfl, (Array.getElem?_eq_some_iff.1 hg).1, hn, hm, fun i r hi => ?_⟩
    obtain ⟨k, x, s, ad, n, cap, mn, mx, h3, h4⟩ := hp.at hi
    refine ⟨k, x, s, ad, n, cap, mn, mx, h3, fun j v hv => ?_⟩
    have hadd : (⟨g, 0, none⟩ : Addr).add (i * 9 + j) = ⟨g, i * 9 + j, none⟩ := by unfold Addr.add; split <;> simp_all
    rw [← hadd]
    exact ho.cells (g := g) rfl _ _ (h4 j v hv)

end Go.Proofs.YtfljcfdfgojdoaaGreatDoor
