/-
  For dfa.Of: a region that draws, inside a round; marks of states; what one row of the table leads to.
-/
import Derived.Test.YtfjomnhdmkbkiaaDoorDfV
import Derived.Test.YtfjomnhdmkbkiaaDoorImgU
import Derived.RangeFuncNested
import Derived.RangeFuncBound
import Derived.RangeFuncCalls
import Derived.RangeFuncLeaves
namespace Go.Proofs.YtfjomnhdmkbkiaaDoor.Im
open Go.RowKit Go.Lib Go.Maps Go.Shelf

/-! a region that draws, inside a round -/
theorem rowsIn_round {n l : Nat} {P : Program} {row : String} {args : Array Value} {w : World} {R : Value → World → Prop} (h : Rows P row args w R) : Go.RowsIn (Fence.wide.inRound l) n P row args w R :=
  fun c cs _ => let ⟨v, w', r, s⟩ := h c cs; ⟨v, w', r, stepsIn_wide.2 s⟩
theorem callsIn_round {n l : Nat} {P : Program} {f : FuncId} {args : Array Value} {w : World} {R : Ending → World → Prop} (h : Calls P f args w R) : CallsIn (Fence.wide.inRound l) n P f args w R :=
  CallsIn.inRound l (callsIn_wide.2 h)
theorem op_round {l n : Nat} {P : Program} {o : Oper} {a : Act} {w : World} {K : Act → World → Prop} {Q : Exit → Act → World → Prop} (hd : ∀ c, o.op ≠ .defer c) (h : o.wp P a w K Q) : o.wpIn (Fence.wide.inRound l) n P a w K Q := by
  refine ⟨fun _ _ => trivial, ?_⟩
  rw [Oper.semAt_eq _ _ _ hd]
  unfold Oper.wp at h
  generalize (execOp a.eval o).run P w = r at *
  cases r with
  | ok x w' =>
    cases x <;> simp only [Oper.upon, Oper.uponIn] at h ⊢ <;>
      first
        | exact h
        | exact ⟨fun e => by simp [Fence.wide, Fence.inRound] at e, callsIn_round h⟩
        | exact ⟨fun e => by simp [Fence.wide, Fence.inRound] at e, rowsIn_round h⟩
        | exact h.elim
  | halt x w' => cases x <;> simp only [Oper.upon, Oper.uponIn] at h ⊢ <;> exact h
theorem any_round {l n : Nat} {P : Program} {md : Region.Mode} {ops : Array Oper} {Q : Exit → Act → World → Prop} (hd : ∀ o ∈ ops, ∀ c, o.op ≠ .defer c) (hno : ¬ LetsOut Q) : ∀ (f : Nat) (L : Array Bool) (a : Act) (w : World), wpAny P md ops Q f L a w → wpAnyIn (Fence.wide.inRound l) n P md ops Q f L a w
  | 0, _, _, _, h => h
  | f + 1, L, a, w, h => ⟨h.1, fun i hi => by
      have h2 := h.2 i hi
      unfold wpOp at h2
      unfold wpOpIn
      cases ho : ops[i]? with
      | none => rw [ho] at h2; exact any_round hd hno f _ _ _ h2
      | some o =>
        rw [ho] at h2
        have hm : o ∈ ops := Array.mem_of_getElem? ho
        dsimp only at h2 ⊢
        by_cases hw : Region.wanted o (yielded ops a.tmps) = true
        · rw [if_pos hw] at h2 ⊢
          rcases h2 with h2 | h2
          · exact Oper.wpIn_mono (fun a w h => any_round hd hno f _ _ _ h) (op_round (hd o hm) h2)
          · exact absurd h2.2 hno
        · rw [if_neg hw] at h2 ⊢
          exact ⟨fun _ _ => trivial, any_round hd hno f _ _ _ h2⟩⟩
def noDefer (ops : Array Oper) : Bool := ops.all fun o => match o.op with | .defer _ => false | _ => true
theorem noDefer_spec {ops : Array Oper} (h : noDefer ops = true) : ∀ o ∈ ops, ∀ c, o.op ≠ .defer c := fun o ho c e => by
  unfold noDefer at h
  have := Array.all_eq_true.1 h
  obtain ⟨i, hi, rfl⟩ := Array.mem_iff_getElem.1 ho
  have := this i hi
  rw [e] at this
  cases this
theorem region_round {l n id : Nat} {P : Program} {ops : Array Oper} {Q : Exit → Act → World → Prop} {S : World → Prop} {a : Act} {w : World} {k : Nat} (hm : P.follows .mixedOrders = true) (hd : noDefer ops = true) (hno : ¬ LetsOut Q)
    (h : Till P .any ops Q S k ops.size (Array.replicate ops.size false) a w.drew) : (Code.region id ops true).wpIn (Fence.wide.inRound l) n P Q a w :=
  wpIn_region_any hm (any_round (noDefer_spec hd) hno _ _ _ _ h.any)

/-! marks -/
def marks (m : Nat) (l : List Int) : List Value := (List.range m).map fun (x : Nat) => .bool (decide ((x : Int) ∈ l))
theorem marks_nil (m : Nat) : marks m [] = List.replicate m (.bool false) := by
  refine List.ext_getElem (by simp [marks]) fun i h1 h2 => by simp [marks]
theorem marks_len (m : Nat) (l : List Int) : (marks m l).length = m := by simp [marks]
theorem marks_get {m x : Nat} (hx : x < m) (l : List Int) : (marks m l)[x]? = some (.bool (decide ((x : Int) ∈ l))) := by
  simp [marks, List.getElem?_map, List.getElem?_range hx]
theorem marks_set {m x : Nat} (l : List Int) : (marks m l).set x (.bool true) = marks m (l ++ [(x : Int)]) := by
  refine List.ext_getElem (by simp [marks]) fun i h1 h2 => ?_
  rw [List.getElem_set]
  by_cases h : x = i
  · subst h; simp [marks]
  · rw [if_neg h]
    have : ¬ ((i : Int) = (x : Int)) := by omega
    simp [marks, this]

theorem rise_lt {n : Int} : ∀ (l : List Int) (q : Option Int), riseM n q l = true → ∀ x ∈ l, 0 ≤ x ∧ x < n
  | [], _, _, x, hx => by cases hx
  | s :: l, q, h, x, hx => by
    have h1 : (0 ≤ s ∧ s < n) ∧ riseM n (some s) l = true := by
      cases q <;> (unfold riseM stateOk at h; simp only [Bool.and_eq_true, decide_eq_true_eq] at h)
      · exact h
      · exact ⟨h.1.1, h.2⟩
    rcases List.mem_cons.1 hx with rfl | hx
    · exact h1.1
    · exact rise_lt l _ h1.2 x hx

theorem rise_up {n : Int} : ∀ (l : List Int) (q : Option Int), riseM n q l = true → l.Pairwise (· < ·) ∧ ∀ y, q = some y → ∀ x ∈ l, y < x
  | [], _, _ => ⟨by simp, by simp⟩
  | s :: l, q, h => by
    have h1 : (∀ y, q = some y → y < s) ∧ riseM n (some s) l = true := by
      cases q <;> (unfold riseM at h; simp only [Bool.and_eq_true, decide_eq_true_eq] at h)
      · exact ⟨by simp, h.2⟩
      · exact ⟨by simpa using h.1.2, h.2⟩
    have ih := rise_up l _ h1.2
    refine ⟨List.pairwise_cons.2 ⟨ih.2 s rfl, ih.1⟩, fun y hy x hx => ?_⟩
    have := h1.1 y hy
    rcases List.mem_cons.1 hx with rfl | hx
    · exact this
    · exact Int.lt_trans this (ih.2 s rfl x hx)

/-! behind a row -/
def froms (m : Nat) (es : List Edge) : List (List Edge) := (List.range m).map (leaving es)
theorem froms_len (m : Nat) (es : List Edge) : (froms m es).length = m := by simp [froms]
theorem outsAll_froms {m : Nat} {es : List Edge} {row : List Int} {s : Se} (hrow : ∀ x ∈ row, 0 ≤ x ∧ x < (m : Int)) : outsAll (froms m es) ((firstS s).getD 0) row = behindM es row s := by
  unfold outsAll behindM
  refine flatMap_congr' fun x hx => ?_
  obtain ⟨h0, h1⟩ := hrow x hx
  obtain ⟨k, rfl⟩ := Int.eq_ofNat_of_zero_le h0
  have hk : k < m := by omega
  unfold outs froms leaving
  rw [Int.toNat_natCast, List.getD_eq_getElem?_getD, List.getElem?_map, List.getElem?_range hk]
  simp only [Option.map_some, Option.getD_some, List.filter_filter]
  congr 1
  refine List.filter_congr fun e _ => Bool.and_comm _ _
where flatMap_congr' {α β : Type} {f g : α → List β} : ∀ {l : List α}, (∀ x ∈ l, f x = g x) → l.flatMap f = l.flatMap g
  | [], _ => rfl
  | x :: l, h => by rw [List.flatMap_cons, List.flatMap_cons, h x (by simp), flatMap_congr' fun y hy => h y (by simp [hy])]
theorem behind_len (s : Se) : ∀ (row : List Int) (es : List Edge), row.Pairwise (· < ·) → (behindM es row s).length ≤ es.length
  | [], _, _ => by simp [behindM]
  | x :: row, es, h => by
    obtain ⟨h1, h2⟩ := List.pairwise_cons.1 h
    have e : behindM es row s = behindM (es.filter fun e => !decide (e.fr = x)) row s := by
      unfold behindM
      refine outsAll_froms.flatMap_congr' fun y hy => ?_
      rw [List.filter_filter]
      congr 1
      refine List.filter_congr fun e _ => ?_
      have := h1 y hy
      by_cases he : e.fr = y
      · have : e.fr ≠ x := by omega
        simp [he, show y ≠ x by omega]
      · simp [he]
    have e2 : behindM es (x :: row) s = ((es.filter fun e => decide (e.fr = x) && hasS e.st ((firstS s).getD 0))).map Edge.dst ++ behindM es row s := by unfold behindM; rw [List.flatMap_cons]
    have ih := behind_len s row (es.filter fun e => !decide (e.fr = x)) h2
    have hs : (es.filter fun e => decide (e.fr = x) && hasS e.st ((firstS s).getD 0)).length + (es.filter fun e => !decide (e.fr = x)).length ≤ es.length := by
      clear e e2 ih
      induction es with
      | nil => simp
      | cons e es ih =>
        simp only [List.filter_cons]
        by_cases he : e.fr = x
        · simp only [he, decide_true, Bool.true_and, Bool.not_true, Bool.false_eq_true, if_false]
          split <;> simp <;> omega
        · simp only [he, decide_false, Bool.false_and, Bool.false_eq_true, if_false, Bool.not_false, if_true, List.length_cons]
          omega
    rw [e2, List.length_append, List.length_map, e]
    omega
theorem behind_lt {m : Nat} {es : List Edge} {row : List Int} {s : Se} (he : ∀ e ∈ es, 0 ≤ e.dst ∧ e.dst < (m : Int)) : ∀ x ∈ behindM es row s, 0 ≤ x ∧ x < (m : Int) := fun x hx => by
  unfold behindM at hx
  obtain ⟨y, _, hy⟩ := List.mem_flatMap.1 hx
  obtain ⟨e, h1, rfl⟩ := List.mem_map.1 hy
  exact he e (List.mem_filter.1 h1).1
theorem up_lenZ : ∀ (l : List Int) (a b : Int), l.Pairwise (· < ·) → (∀ x ∈ l, a ≤ x ∧ x < b) → l.length ≤ (b - a).toNat
  | [], _, _, _, _ => by simp
  | x :: l, a, b, h, hb => by
    have h1 := List.pairwise_cons.1 h
    have h2 := hb x (by simp)
    have := up_lenZ l (x + 1) b h1.2 fun y hy => ⟨h1.1 y hy, (hb y (by simp [hy])).2⟩
    simp; omega
theorem start_len {n : Int} (l : List Int) (q : Option Int) (h : riseM n q l = true) : l.length ≤ n.toNat := by
  have := up_lenZ l 0 n (rise_up l q h).1 (rise_lt l q h)
  omega
structure RowOk (m : Nat) (r : List Int) : Prop where
  up : r.Pairwise (· < ·)
  lt : ∀ x ∈ r, 0 ≤ x ∧ x < (m : Int)
theorem RowOk.len {m : Nat} {r : List Int} (h : RowOk m r) : r.length ≤ m := by
  have := up_lenZ r 0 m h.up h.lt
  omega
theorem RowOk.sort {m : Nat} {l : List Int} (h : ∀ x ∈ l, 0 ≤ x ∧ x < (m : Int)) : RowOk m (sortU l) := ⟨up_sortU l, fun x hx => h x ((mem_sortU x l).1 hx)⟩
theorem RowOk.put {m : Nat} {rows rows' : List (List Int)} {l : List Int} {k : Nat} (h : ∀ r ∈ rows, RowOk m r) (hl : ∀ x ∈ l, 0 ≤ x ∧ x < (m : Int)) (hp : putM rows l = .ok (k, rows')) : ∀ r ∈ rows', RowOk m r := by
  unfold putM at hp
  split at hp
  · cases hp; exact h
  · split at hp
    · cases hp
    · cases hp
      intro r hr
      rcases List.mem_append.1 hr with hr | hr
      · exact h r hr
      · rw [List.mem_singleton.1 hr]; exact RowOk.sort hl

theorem put_first (l : List Int) : putM [] l = .ok (0, [sortU l]) := by unfold putM; simp
/-! one row after another -/
def foldC (es : List Edge) (row : List Int) (p : List Se) : List (Cl p.length) → List (List Int) → List Int → Except Int (List (List Int) × List Int)
  | [], rows, nx => .ok (rows, nx)
  | c :: cs, rows, nx =>
    match putM rows (behindM es row (p[c.1]'c.2)) with
    | .error e => .error e
    | .ok (k, rows') => if 1024 ≤ k then .error 2 else foldC es row p cs rows' (nx.set c.1 (k : Int))
theorem foldC_append (es : List Edge) (row : List Int) (p : List Se) : ∀ (cs ds : List (Cl p.length)) (rows : List (List Int)) (nx : List Int),
    foldC es row p (cs ++ ds) rows nx = match foldC es row p cs rows nx with | .error e => .error e | .ok (r, x) => foldC es row p ds r x
  | [], _, _, _ => rfl
  | c :: cs, ds, rows, nx => by
    rw [List.cons_append, foldC, foldC]
    cases hp : putM rows (behindM es row (p[c.1]'c.2)) with
    | error e => rfl
    | ok x =>
      obtain ⟨k, rows'⟩ := x
      dsimp only
      split
      · rfl
      · exact foldC_append es row p cs ds rows' _
theorem foldC_drop (es : List Edge) (row : List Int) (p : List Se) : ∀ (j k : Nat) (rows : List (List Int)) (nx : List Int), k + j = p.length → nx.length = p.length →
    foldC es row p ((allC p.length).drop k) rows nx = match nextM es row rows (p.drop k) with | .error e => .error e | .ok (l, rows') => .ok (rows', nx.take k ++ l)
  | 0, k, rows, nx, h, hn => by
    have hk : k = p.length := by omega
    rw [List.drop_of_length_le (by rw [allC_len]; omega), List.drop_of_length_le (by omega)]
    unfold foldC nextM
    rw [List.take_of_length_le (by omega)]
    dsimp only
    rw [List.append_nil]
  | j + 1, k, rows, nx, h, hn => by
    have hk : k < p.length := by omega
    rw [drop_cons' _ k (by rw [allC_len]; exact hk), drop_cons' p k hk, allC_get hk, foldC, nextM]
    dsimp only
    cases hp : putM rows (behindM es row p[k]) with
    | error e => rfl
    | ok x =>
      obtain ⟨q, rows'⟩ := x
      dsimp only
      split
      · rfl
      · rw [foldC_drop es row p j (k + 1) rows' _ (by omega) (by simpa using hn)]
        cases nextM es row rows' (p.drop (k + 1)) with
        | error e => rfl
        | ok y =>
          obtain ⟨l, r⟩ := y
          dsimp only
          rw [List.take_succ_eq_append_getElem (by simp; omega), List.getElem_set_self, List.take_set_of_le (Nat.le_refl _), List.append_assoc]
          rfl
theorem foldC_all (es : List Edge) (row : List Int) (p : List Se) (rows : List (List Int)) : foldC es row p (allC p.length) rows (List.replicate p.length 0) = match nextM es row rows p with | .error e => .error e | .ok (l, rows') => .ok (rows', l) := by
  have := foldC_drop es row p p.length 0 rows (List.replicate p.length 0) (by omega) (by simp)
  rw [List.drop_zero, List.drop_zero, List.take_zero] at this
  rw [this]
  cases nextM es row rows p with
  | error e => rfl
  | ok y => rfl
theorem foldC_len {es : List Edge} {row : List Int} {p : List Se} : ∀ {cs : List (Cl p.length)} {rows rows' : List (List Int)} {nx nx' : List Int}, foldC es row p cs rows nx = .ok (rows', nx') → nx'.length = nx.length
  | [], rows, rows', nx, nx', h => by unfold foldC at h; cases h; rfl
  | c :: cs, rows, rows', nx, nx', h => by
    unfold foldC at h
    split at h
    · cases h
    · split at h
      · cases h
      · rw [foldC_len h, List.length_set]
/-- an error in a part is the error of the whole -/
theorem foldC_bad {es : List Edge} {row : List Int} {p : List Se} {rows : List (List Int)} {k : Nat} {e : Int} (h : foldC es row p ((allC p.length).take k) rows (List.replicate p.length 0) = .error e) : nextM es row rows p = .error e := by
  have h1 := foldC_append es row p ((allC p.length).take k) ((allC p.length).drop k) rows (List.replicate p.length 0)
  rw [List.take_append_drop, h, foldC_all] at h1
  cases hn : nextM es row rows p with
  | error e' => rw [hn] at h1; dsimp only at h1; cases h1; rfl
  | ok y => rw [hn] at h1; cases h1
/-! the table abides what a range over a function turns -/
theorem TabIn.alloc {w : World} {base T M : Nat} {rv : Value} {rows : List (List Int)} {Fp : Nat → Prop} (h : TabIn w base T M rv rows Fp) (o : Obj) : TabIn (w.alloc o) base T M rv rows Fp := h.below ((Below.refl _ _).alloc (Nat.le_refl _) _)
theorem TabIn.from {B : Nat} {W W' : World} {base T M : Nat} {rv : Value} {rows : List (List Int)} {Fp : Nat → Prop} {row : Option Nat} (h : TabIn W base T M rv rows Fp) (hM : M < B) (hg : W.grownBy W' row) (hr : ∀ r, row = some r → B ≤ r ∧ ∃ o : Obj, W.heap[r]? = some o ∧ o.isCells = false) : TabIn W' base T M rv rows Fp := by
  refine h.keep (fun g hF => hg.block g (h.lt g hF).2 fun e => ?_) hg.size
  obtain ⟨h1, o, h2, h3⟩ := hr g e.symm
  rcases h.kind g hF with rfl | ⟨cs, t, hc⟩
  · omega
  · rw [hc] at h2; cases h2; cases h3
theorem own_from {B : Nat} {W W' : World} {base e size n : Nat} {v : Value} {xs : List Value} {row : Option Nat} (h : W.ownsRow base e size v n xs) (hg : W.grownBy W' row) (hr : ∀ r, row = some r → B ≤ r ∧ ∃ o : Obj, W.heap[r]? = some o ∧ o.isCells = false) : W'.ownsRow base e size v n xs := by
  refine own_blk h fun g hv => hg.block g (own_lt h hv).2 fun e => ?_
  obtain ⟨cur, hc⟩ := own_tag h hv
  obtain ⟨_, o, h2, h3⟩ := hr g e.symm
  rw [hc] at h2; cases h2; cases h3
theorem Turn.from {S : Nat → Prop} {W0 W W' : World} {row : Option Nat} (h : Turn S W0 W) (hg : W.grownBy W' row) (hr : ∀ r, row = some r → W0.heap.size ≤ r ∧ ∃ o : Obj, W.heap[r]? = some o ∧ o.isCells = false) : Turn S W0 W' :=
  h.grown' hg fun g e => .inr (hr g e).1
end Go.Proofs.YtfjomnhdmkbkiaaDoor.Im
