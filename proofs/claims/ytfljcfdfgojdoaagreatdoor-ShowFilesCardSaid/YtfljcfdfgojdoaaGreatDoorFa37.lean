/-
  How many levels an expression has, as the reference counts them; appending parts to a level.
  How many levels an expression has, as the reference counts them: the walk.
-/
import Derived.Test.YtfljcfdfgojdoaaGreatDoorFa35
import Derived.Test.YtfljcfdfgojdoaaGreatDoorFa24
import Derived.Laws.AppendOwnNone
namespace Go.Proofs.YtfljcfdfgojdoaaGreatDoor.Sh.Rf
open Go.RowKit Go.Lib Go.Proofs.YtfljcfdfgojdoaaGreatDoor Go.Proofs.YtfljcfdfgojdoaaGreatDoor.Sh

/-- the cells of expressions, one behind the other -/
def LvC (F : Nat → Prop) (w : World) : List Re → List Value → Prop
  | [], xs => xs = []
  | r :: l, xs => ∃ (cs : Array Value) (rest : List Value), xs = cs.toList ++ rest ∧ ReG F w r cs ∧ LvC F w l rest
theorem re_nine {F : Nat → Prop} {w : World} {r : Re} {cs : Array Value} (h : ReG F w r cs) : cs.toList.length = 9 := by
  obtain ⟨k, x, s, ad, n, cap, mn, mx, rfl⟩ := h.cells
  rfl
theorem re_one {F : Nat → Prop} {w : World} {r : Re} {cs : Array Value} (h : ReG F w r cs) : ∀ u ∈ cs.toList, u.oneCell' = true := by
  obtain ⟨k, x, s, ad, n, cap, mn, mx, rfl⟩ := h.cells
  exact one_of_all rfl
theorem LvC.len {F : Nat → Prop} {w : World} : ∀ {l : List Re} {xs : List Value}, LvC F w l xs → xs.length = l.length * 9
  | [], xs, h => by have : xs = [] := h; subst this; rfl
  | r :: l, xs, h => by
    obtain ⟨cs, rest, rfl, h1, h2⟩ := h
    rw [List.length_append, re_nine h1, h2.len, List.length_cons]
    omega
theorem LvC.one {F : Nat → Prop} {w : World} : ∀ {l : List Re} {xs : List Value}, LvC F w l xs → ∀ u ∈ xs, u.oneCell' = true
  | [], xs, h => by have : xs = [] := h; subst this; intro u hu; cases hu
  | r :: l, xs, h => by
    obtain ⟨cs, rest, rfl, h1, h2⟩ := h
    intro u hu
    rcases List.mem_append.1 hu with hu | hu
    · exact re_one h1 u hu
    · exact h2.one u hu
theorem LvC.below {F : Nat → Prop} {w w' : World} {base : Nat} (hF : ∀ g, F g → g < base) (hb : Below base w w') : ∀ {l : List Re} {xs : List Value}, LvC F w l xs → LvC F w' l xs
  | [], xs, h => h
  | r :: l, xs, h => by
    obtain ⟨cs, rest, h0, h1, h2⟩ := h
    exact ⟨cs, rest, h0, h1.below hF hb, LvC.below hF hb h2⟩
theorem LvC.append {F : Nat → Prop} {w : World} {m : List Re} {ys : List Value} (k : LvC F w m ys) : ∀ {l : List Re} {xs : List Value}, LvC F w l xs → LvC F w (l ++ m) (xs ++ ys)
  | [], xs, h => by have : xs = [] := h; subst this; exact k
  | r :: l, xs, h => by
    obtain ⟨cs, rest, rfl, h1, h2⟩ := h
    exact ⟨cs, rest ++ ys, by rw [List.append_assoc], h1, LvC.append k h2⟩
theorem LvC.at {F : Nat → Prop} {w : World} : ∀ {l : List Re} {xs : List Value} {i : Nat} {r : Re}, LvC F w l xs → l[i]? = some r →
    ∃ cs : Array Value, ReG F w r cs ∧ ∀ j v, cs[j]? = some v → xs[i * 9 + j]? = some v
  | [], xs, i, r, h, hi => by simp at hi
  | r0 :: l, xs, 0, r, h, hi => by
    obtain ⟨cs, rest, rfl, h1, h2⟩ := h
    simp at hi; subst hi
    refine ⟨cs, h1, fun j v hv => ?_⟩
    rw [Nat.zero_mul, Nat.zero_add, List.getElem?_append_left (by rw [Array.length_toList]; exact (Array.getElem?_eq_some_iff.1 hv).1)]
    simpa using hv
  | r0 :: l, xs, i + 1, r, h, hi => by
    obtain ⟨cs, rest, rfl, h1, h2⟩ := h
    obtain ⟨cs', h3, h4⟩ := LvC.at (i := i) (r := r) h2 (by simpa using hi)
    refine ⟨cs', h3, fun j v hv => ?_⟩
    rw [List.getElem?_append_right (by rw [re_nine h1]; omega), re_nine h1, show (i + 1) * 9 + j - 9 = i * 9 + j by omega]
    exact h4 j v hv
theorem parts_lvc {F : Nat → Prop} {w : World} {g : Nat} : ∀ {l : List Re} {off : Nat}, PartsG F w g off l → ∃ ys, LvC F w l ys ∧ ∀ j u, ys[j]? = some u → w.cell? ⟨g, off + j, none⟩ = some u
  | [], off, _ => ⟨[], rfl, fun j u h => by simp at h⟩
  | r :: l, off, h => by
    unfold PartsG at h
    obtain ⟨cs, h1, h2, h3⟩ := h
    obtain ⟨ys, h4, h5⟩ := parts_lvc h3
    refine ⟨cs.toList ++ ys, ⟨cs, ys, rfl, h2, h4⟩, fun j u hu => ?_⟩
    by_cases hj : j < 9
    · rw [List.getElem?_append_left (by rw [re_nine h2]; exact hj)] at hu
      exact h1 j u (by simpa using hu)
    · rw [List.getElem?_append_right (by rw [re_nine h2]; omega), re_nine h2] at hu
      have := h5 _ _ hu
      rwa [show off + 9 + (j - 9) = off + j by omega] at this
theorem run_append_none_c {P : Program} {w : World} (base : Nat) (t ty e : TypeId) (i : TypeInfo) (size : Nat) (ht : P.underlying t = some (.slice e)) (hi : P.info? e = some i)
    (v : Value) (n c : Nat) (xs : List Value) (hown : w.ownsRow base e size v n xs) :
    (Builtin.append_ #[t, t] ty #[v, .slice none 0 c]).run P w = .ok v w := by
  rcases hown.2 with ⟨rfl, rfl⟩ | ⟨g, cap, cur, rfl, _, _, hnc, _⟩
  · simp [Builtin.append_, run_underlying ht, sizeOf, typeInfo, hi, Builtin.lenOf, Builtin.firstCells]
  · simp [Builtin.append_, run_underlying ht, sizeOf, typeInfo, hi, Builtin.lenOf, Builtin.firstCells, hnc, storeCells]
theorem wpList_append_none_c {P : Program} {w : World} {ops : Array Oper} {rest : List Oper} {o : Oper} {a : Act} {Q : Exit → Act → World → Prop} (hgd : o.guard = none) (s x : Operand) (t : TypeId)
    (ho : o.op = .call { callee := .builtin .append, args := #[s, x], argTypes := #[t, t] })
    (base : Nat) (e : TypeId) (i : TypeInfo) (size : Nat) (ht : P.underlying t = some (.slice e)) (hi : P.info? e = some i)
    (v : Value) (n c : Nat) (xs : List Value) (hs : a.eval s = v) (hown : w.ownsRow base e size v n xs) (hx : a.eval x = .slice none 0 c)
    (h : wpList P ops Q rest (a.put o.dst v) w) : wpList P ops Q (o :: rest) a w := by
  refine wpList_plain hgd fun K hK => ?_
  have hrun := run_append_none_c (P := P) (w := w) base t o.type e i size ht hi v n c xs hown
  unfold Oper.wp
  simp [execOp, ho, resolve, invoke, builtin, hs, hx, hrun, Result.andThen]
  exact hK _ _ h
section
variable {w : World} {ops : Array Oper} {rest : List Oper} {o : Oper} {a : Act} {Q : Exit → Act → World → Prop}
theorem wpList_appRe (hgd : o.guard = none) (s x : Operand) (ho : o.op = .call { callee := .builtin .append, args := #[s, x], argTypes := #[31, 31] })
    (base : Nat) (v : Value) (F : Nat → Prop) (l : List Re) (xs : List Value) (hs : a.eval s = v) (hown : w.ownsRow base 33 9 v l.length xs) (hl : LvC F w l xs)
    (m : List Re) (ad : Option Addr) (c : Nat) (hx : a.eval x = .slice ad m.length c) (hm : m ≠ [] → ∃ g off, ad = some ⟨g, off, none⟩ ∧ F g ∧ PartsG F w g off m)
    (hF : ∀ g, F g → g < base) (hlen : l.length + m.length ≤ 1000000) (hbase : base ≤ w.heap.size)
    (h : ∀ v' xs' w', w'.ownsRow base 33 9 v' (l ++ m).length xs' → LvC F w' (l ++ m) xs' → Below base w w' → wpList Tryz.prog ops Q rest (a.put o.dst v') w') : wpList Tryz.prog ops Q (o :: rest) a w := by
  obtain ⟨i0, hi, hz0, hz1, hz2⟩ := info_parts info27'
  rcases ad with _ | q
  · have hme : m = [] := Classical.byContradiction fun hne => by
      obtain ⟨g, off, e, _⟩ := hm hne
      cases e
    subst hme
    refine wpList_append_none_c hgd s x 31 ho base 33 i0 9 Tryz.underlying31 hi v l.length c xs hs hown hx ?_
    exact h v xs w (by rw [List.append_nil]; exact hown) (by rw [List.append_nil]; exact hl) (Below.refl _ _)
  · obtain ⟨ys, h1, h2⟩ : ∃ ys, LvC F w m ys ∧ ∀ j u, ys[j]? = some u → w.cell? (q.add j) = some u := by
      by_cases hme : m = []
      · subst hme
        exact ⟨[], rfl, fun j u h => by simp at h⟩
      · obtain ⟨g, off, e, _, hp⟩ := hm hme
        obtain ⟨ys, h1, h2⟩ := parts_lvc hp
        injection e with e
        subst e
        refine ⟨ys, h1, fun j u hu => ?_⟩
        rw [Addr.add_lit]
        exact h2 j u hu
    refine wpList_append_own w hgd s x 31 ho base 33 i0 (.agg reZ) 9 96 Tryz.underlying31 hi hz0 hz1 hz2 rfl (by decide) v l.length xs hs hown q m.length c ys hx h1.len h2 h1.one
      (by unfold maxLen; omega) (by omega) hbase fun v' w' h3 h4 _ => ?_
    have hb := below_grown hown h4 hbase
    exact h v' (xs ++ ys) w' (by rw [List.length_append]; exact h3) ((h1.below hF hb).append (hl.below hF hb)) hb
end
-- plain
def partsOf : Re → List Re | .mk _ _ _ ps _ _ => ps
def nextL2 (l : List Re) : List Re := l.flatMap partsOf
def levelAt (r : Re) : Nat → List Re
  | 0 => [r]
  | j + 1 => nextL2 (levelAt r j)
theorem next_any (k : Nat) : ∀ l : List Re, (nextL2 l).any (deepB k) = l.any (deepB (k + 1))
  | [] => rfl
  | r :: l => by
    obtain ⟨kk, x, s, ps, mn, mx⟩ := r
    have ih := next_any k l
    unfold nextL2 at ih ⊢
    rw [List.flatMap_cons, List.any_append, ih, List.any_cons]
    rfl
theorem level_any (r : Re) : ∀ (j k : Nat), (levelAt r j).any (deepB k) = deepB (j + k) r
  | 0, k => by unfold levelAt; simp
  | j + 1, k => by
    unfold levelAt
    rw [next_any, level_any r j (k + 1), show j + (k + 1) = j + 1 + k by omega]
theorem level_ne (r : Re) (j : Nat) : levelAt r j ≠ [] ↔ deepB j r = true := by
  have h := level_any r j 0
  rw [Nat.add_zero] at h
  rw [← h]
  rcases levelAt r j with _ | ⟨q, l⟩
  · simp
  · simp [deepB]
theorem level_nil {r : Re} {j : Nat} (h : levelAt r j = []) : ∀ m, j ≤ m → levelAt r m = []
  | 0, hm => by
    obtain rfl : j = 0 := by omega
    exact h
  | m + 1, hm => by
    by_cases e : j = m + 1
    · subst e; exact h
    · have := level_nil h m (by omega)
      unfold levelAt
      rw [this]; rfl
theorem nodes_pos (r : Re) : 1 ≤ nodes r := by
  obtain ⟨k, x, s, ps, mn, mx⟩ := r
  rw [nodes]; omega
theorem nodesL_app : ∀ (l m : List Re), nodesL (l ++ m) = nodesL l + nodesL m
  | [], m => by rw [List.nil_append, nodesL]; omega
  | r :: l, m => by rw [List.cons_append, nodesL, nodesL, nodesL_app l m]; omega
theorem nodesL_next : ∀ l : List Re, nodesL (nextL2 l) ≤ nodesL l
  | [] => Nat.le_refl _
  | r :: l => by
    obtain ⟨k, x, s, ps, mn, mx⟩ := r
    have ih := nodesL_next l
    unfold nextL2 at ih ⊢
    rw [List.flatMap_cons, nodesL_app, nodesL, nodes]
    show nodesL ps + _ ≤ _
    omega
theorem nodesL_len : ∀ l : List Re, l.length ≤ nodesL l
  | [] => Nat.zero_le _
  | r :: l => by
    have := nodesL_len l
    have := nodes_pos r
    rw [nodesL, List.length_cons]; omega
theorem level_len (r : Re) (j : Nat) : (levelAt r j).length ≤ nodes r := by
  refine Nat.le_trans (nodesL_len _) ?_
  induction j with
  | zero => unfold levelAt; rw [nodesL, nodesL]; omega
  | succ j ih => unfold levelAt; exact Nat.le_trans (nodesL_next _) ih
theorem next_take (l : List Re) (i : Nat) : (nextL2 (l.take i)).length ≤ (nextL2 l).length := by
  unfold nextL2
  conv => rhs; rw [← List.take_append_drop i l]
  rw [List.flatMap_append, List.length_append]
  omega
theorem next_snoc (l : List Re) (r : Re) : nextL2 (l ++ [r]) = nextL2 l ++ partsOf r := by
  unfold nextL2
  rw [List.flatMap_append, List.flatMap_cons, List.flatMap_nil, List.append_nil]
/-- a level in memory -/
def LvAt (F : Nat → Prop) (w : World) (v : Value) (l : List Re) : Prop := ∃ ad cap xs, v = .slice ad l.length cap ∧ LvC F w l xs ∧ (l ≠ [] → ∃ g, ad = some ⟨g, 0, none⟩ ∧ g < w.heap.size ∧ ∀ j u, xs[j]? = some u → w.cell? ⟨g, j, none⟩ = some u)
theorem LvAt.of {F : Nat → Prop} {w : World} {base : Nat} {v : Value} {l : List Re} {xs : List Value} (h : w.ownsRow base 33 9 v l.length xs) (hl : LvC F w l xs) : LvAt F w v l := by
  obtain ⟨ad, cap, rfl⟩ := own_shape h
  refine ⟨ad, cap, xs, rfl, hl, fun hne => ?_⟩
  have h2 := h.2
  rcases h2 with ⟨_, hn⟩ | ⟨g, cap', cur, e, _, hg, _⟩
  · exact absurd (List.length_eq_zero_iff.1 hn) hne
  · injection e with e1
    subst e1
    refine ⟨g, rfl, lt_of_heap hg, fun j u hu => ?_⟩
    have := h.cells (g := g) rfl j u hu
    rw [Addr.add_lit, Nat.zero_add] at this
    exact this
theorem LvAt.one {F : Nat → Prop} {w : World} {b : Nat} {r : Re} {cs : Array Value} (hb : w.heap[b]? = some (.cells cs 33 (0, 0))) (h : ReG F w r cs) : LvAt F w (.slice (some ⟨b, 0, none⟩) 1 1) [r] :=
  ⟨_, 1, cs.toList ++ [], rfl, ⟨cs, [], rfl, h, rfl⟩, fun _ => ⟨b, rfl, lt_of_heap hb, fun j u hu => cell_blk hb (by rw [List.append_nil] at hu; simpa using hu)⟩⟩
end Go.Proofs.YtfljcfdfgojdoaaGreatDoor.Sh.Rf

namespace Go.Proofs.YtfljcfdfgojdoaaGreatDoor.Sh.Rf
open Go.RowKit Go.Lib Go.Proofs.YtfljcfdfgojdoaaGreatDoor Go.Proofs.YtfljcfdfgojdoaaGreatDoor.Sh

set_option maxRecDepth 100000 in
set_option maxHeartbeats 4000000 in
theorem deepE_any {F : Nat → Prop} {r : Re} {cs : Array Value} {w : World} (hFw : ∀ g, F g → g < w.heap.size) (h : ReG F w r cs) (hn : nodes r ≤ 1000000) :
    Calls Tryz.prog 127 #[.agg cs] w fun e w' => ∃ n : Nat, e = .returned (.int .i64 n) ∧ (200 < n ↔ deepB 200 r = true) ∧ n ≤ 201 ∧ Below w.heap.size w w' := by
  have hG := h
  obtain ⟨k, x, s, ad0, n0, cap0, mn, mx, rfl⟩ := h.cells
  have hb1 : (w.alloc (.cells (reC k x s (.slice ad0 n0 cap0) mn mx) 33)).heap[w.heap.size]? = some (.cells (reC k x s (.slice ad0 n0 cap0) mn mx) 33 (0, 0)) := heap_alloc_new _ _
  have hb2 : ((w.alloc (.cells (reC k x s (.slice ad0 n0 cap0) mn mx) 33)).alloc (.cells (reC k x s (.slice ad0 n0 cap0) mn mx) 33)).heap[w.heap.size + 1]? = some (.cells (reC k x s (.slice ad0 n0 cap0) mn mx) 33 (0, 0)) := heap_alloc2_new _ _ _
  have HB0 := hid (show Below w.heap.size w ((w.alloc (.cells (reC k x s (.slice ad0 n0 cap0) mn mx) 33)).alloc (.cells (reC k x s (.slice ad0 n0 cap0) mn mx) 33)) from ((Below.refl _ w).alloc (Nat.le_refl _) _).alloc (by simp) _)
  have HLV0 := hid (LvAt.one hb2 (hG.below hFw HB0.out))
  have HLEN := hid (fun j => Nat.le_trans (level_len r j) hn)
  have HFW := hid hFw
  obtain ⟨c0, c1, c2, c3, c4, c5, c6, c7, c8⟩ := nine_of hb1
  clear h hG hFw hn hb1 hb2
  go_enter Tryz.func127, Tryz.ntmps127
  go_wp2
  generalize (w.alloc (.cells (reC k x s (.slice ad0 n0 cap0) mn mx) 33)).alloc (.cells (reC k x s (.slice ad0 n0 cap0) mn mx) 33) = W0 at *
  clear c0 c1 c2 c3 c4 c5 c6 c7 c8
  go_loopw [3, 4] (fun vn vl wr => ∃ j : Nat, j ≤ 201 ∧ vn = .int .i64 j ∧ Hid (LvAt F wr vl (levelAt r j)) ∧ Hid (∀ i, i < j → levelAt r i ≠ []) ∧ Hid (Below w.heap.size w wr)) (fun vn _ _ => 201 - (RowKit.intOf vn).toNat)
  case atStart => exact ⟨0, by omega, rfl, HLV0, hid (fun i hi => absurd hi (by omega)), HB0⟩
  case round =>
    rename World => wo
    obtain ⟨j, hj, rfl, HLV, HNE, HB⟩ := hrel
    obtain ⟨ad, cap, xs, rfl, HC, HAD⟩ := HLV.out
    have hlen := HLEN.out j
    have HC := hid HC
    have HAD := hid HAD
    have HNX := hid (show levelAt r (j + 1) = nextL2 (levelAt r j) from rfl)
    have HNL := HLEN.out (j + 1)
    rw [HNX.out] at HNL
    by_cases hz : levelAt r j = []
    · have hq : ¬ (0 : Int) < ((levelAt r j).length : Int) := by rw [hz]; simp
      have HZ := hid hz
      clear hz
      go_wp2
      go_ret
      refine ⟨j, rfl, ⟨fun h => (level_ne r 200).1 (HNE.out 200 h), fun h => Classical.byContradiction fun hc => ?_⟩, hj, HB.out⟩
      exact (level_ne r 200).2 h (level_nil HZ.out 200 (by omega))
    · have hq : (0 : Int) < ((levelAt r j).length : Int) := by
        have : 0 < (levelAt r j).length := List.length_pos_iff.2 hz
        omega
      by_cases hj2 : j ≤ 200
      · have hj3 : (j : Int) ≤ 200 := by omega
        obtain ⟨g, rfl, hg, hcell⟩ := HAD.out hz
        have HCE := hid hcell
        have HNE2 := hid (show ∀ i, i < j + 1 → levelAt r i ≠ [] from fun i hi => by
          by_cases e : i = j
          · subst e; exact hz
          · exact HNE.out i (by omega))
        have HFL := hid (show ∀ g, F g → g < wo.heap.size from fun g hg => Nat.lt_of_lt_of_le (HFW.out g hg) HB.out.size)
        clear hcell hz
        generalize levelAt r j = L at *
        go_wp2
        go_loopw [5, 6] (fun vx vi w2 => ∃ (i : Nat) (ys : List Value), i ≤ L.length ∧ vi = .int .i64 i ∧ Hid (w2.ownsRow wo.heap.size 33 9 vx (nextL2 (L.take i)).length ys) ∧ Hid (LvC F w2 (nextL2 (L.take i)) ys) ∧ Hid (Below wo.heap.size wo w2)) (fun _ vi _ => L.length - (RowKit.intOf vi).toNat)
        case atStart => exact ⟨0, [], Nat.zero_le _, rfl, hid (World.ownsRow_nil _ _ _ _), hid rfl, hid (Below.refl _ _)⟩
        case round =>
          obtain ⟨i, ys, hi, rfl, HO, HY, HB2⟩ := hrel
          by_cases hlt : i < L.length
          · have hgi : (i : Int) < (L.length : Int) := by omega
            obtain ⟨cs1, hr1, hc1⟩ := HC.out.at (List.getElem?_eq_getElem hlt)
            have HTK := hid (take_snoc hlt)
            have hNS := next_snoc (L.take i) L[i]
            have hNT := next_take L (i + 1)
            rw [HTK.out, hNS] at hNT
            generalize L[i] = q at *
            obtain ⟨k1, x1, s1, ps1, mn1, mx1⟩ := q
            obtain ⟨ad1, cap1, rfl, hl1, hp1⟩ := (hr1.below HFL.out HB2.out).open
            have hcp := (HB2.out.cell (p := ⟨g, i * 9 + 6, none⟩) hg).trans (HCE.out _ _ (hc1 6 _ rfl))
            have HP1 := hid hp1
            have HNS := hid hNS
            have hls : (nextL2 (L.take i)).length + ps1.length ≤ 1000000 := by
              rw [List.length_append] at hNT
              have : (partsOf (.mk k1 x1 s1 ps1 mn1 mx1)).length = ps1.length := rfl
              omega
            have hsz := HB2.out.size
            clear hr1 hc1 hp1 hNS hNT
            generalize nextL2 (L.take i) = X at *
            go_wp2_with (at_builtin; refine wpList_appRe rfl _ _ rfl wo.heap.size _ F X ys rfl HO.out HY.out ps1 ad1 cap1 rfl HP1.out HFL.out hls hsz ?_; intro v' ys' w3 ho3 hy3 hb3)
            go_roundw
            case rel => exact ⟨i + 1, ys', by omega, by go_num, hid (by rw [HTK.out, HNS.out]; exact ho3), hid (by rw [HTK.out, HNS.out]; exact hy3), hid (HB2.out.trans hb3)⟩
            case measure => simp [RowKit.intOf]; omega
          · obtain rfl : i = L.length := by omega
            have HTL := hid (List.take_length (l := L))
            have HOL := hid (show LvAt F wr _ (nextL2 L) from LvAt.of (by have := HO.out; rw [HTL.out] at this; exact this) (by have := HY.out; rw [HTL.out] at this; exact this))
            clear hlt
            go_wp2
            go_roundw
            case rel => exact ⟨j + 1, by omega, by go_num, hid (by rw [HNX.out]; exact HOL.out), HNE2, hid (HB.out.trans (HB2.out.mono HB.out.size))⟩
            case measure => simp [RowKit.intOf]; omega
      · have hj3 : ¬ (j : Int) ≤ 200 := by omega
        have HJ := hid hj2
        clear hz hj2
        go_wp2
        go_ret
        exact ⟨j, rfl, ⟨fun _ => (level_ne r 200).1 (HNE.out 200 (by have := HJ.out; omega)), fun _ => by have := HJ.out; omega⟩, hj, HB.out⟩
end Go.Proofs.YtfljcfdfgojdoaaGreatDoor.Sh.Rf
