/-
  strconv.Itoa of a number below 100; how often.
  lex.written, lex.Text: their contracts; laws for bytes put behind a row of one's own.
-/
import Derived.Test.YtfljcfdfgojdoaaGreatDoorFa08
import Derived.Test.YtfljcfdfgojdoaaGreatDoorFa07
namespace Go.Proofs.YtfljcfdfgojdoaaGreatDoor.Sh
open Go.RowKit Go.Lib Go.Proofs.YtfljcfdfgojdoaaGreatDoor

abbrev digLo : ByteArray := ⟨#[48, 49, 50, 51, 52, 53, 54, 55, 56, 57, 97, 98, 99, 100, 101, 102, 103, 104, 105, 106, 107, 108, 109, 110, 111, 112, 113, 114, 115, 116, 117, 118, 119, 120, 121, 122]⟩
abbrev digHi : ByteArray := ⟨#[48, 48, 48, 49, 48, 50, 48, 51, 48, 52, 48, 53, 48, 54, 48, 55, 48, 56, 48, 57, 49, 48, 49, 49, 49, 50, 49, 51, 49, 52, 49, 53, 49, 54, 49, 55, 49, 56, 49, 57, 50, 48, 50, 49, 50, 50, 50, 51, 50, 52, 50, 53, 50, 54, 50, 55, 50, 56, 50, 57, 51, 48, 51, 49, 51, 50, 51, 51, 51, 52, 51, 53, 51, 54, 51, 55, 51, 56, 51, 57, 52, 48, 52, 49, 52, 50, 52, 51, 52, 52, 52, 53, 52, 54, 52, 55, 52, 56, 52, 57, 53, 48, 53, 49, 53, 50, 53, 51, 53, 52, 53, 53, 53, 54, 53, 55, 53, 56, 53, 57, 54, 48, 54, 49, 54, 50, 54, 51, 54, 52, 54, 53, 54, 54, 54, 55, 54, 56, 54, 57, 55, 48, 55, 49, 55, 50, 55, 51, 55, 52, 55, 53, 55, 54, 55, 55, 55, 56, 55, 57, 56, 48, 56, 49, 56, 50, 56, 51, 56, 52, 56, 53, 56, 54, 56, 55, 56, 56, 56, 57, 57, 48, 57, 49, 57, 50, 57, 51, 57, 52, 57, 53, 57, 54, 57, 55, 57, 56, 57, 57]⟩
set_option maxRecDepth 1000000 in
theorem small_lo : ∀ n : Fin 10, digLo.extract n.1 (n.1 + 1) = ⟨(decW n.1).toArray⟩ := by decide
set_option maxRecDepth 1000000 in
theorem small_hi : ∀ n : Fin 100, 10 ≤ n.1 → digHi.extract (n.1 * 2) (n.1 * 2 + 2) = ⟨(decW n.1).toArray⟩ := by decide
set_option maxRecDepth 100000 in
set_option maxHeartbeats 400000 in
theorem small_any (n : Nat) (hn : n < 100) (w : World) :
    Calls Tryz.prog 219 #[.int .i64 n] w fun e w' => e = .returned (.string ⟨(decW n).toArray⟩) ∧ w' = w := by
  by_cases h : n < 10
  · have h' : (n : Int) < 10 := by omega
    have HE := hid (small_lo ⟨n, h⟩)
    go_enter Tryz.func219, Tryz.ntmps219
    go_wp2
    go_ret
    exact ⟨congrArg (fun s => Ending.returned (.string s)) HE.out, rfl⟩
  · have h' : ¬ (n : Int) < 10 := by omega
    have HE := hid (small_hi ⟨n, hn⟩ (by show 10 ≤ n; omega))
    go_enter Tryz.func219, Tryz.ntmps219
    go_wp2
    go_ret
    exact ⟨congrArg (fun s => Ending.returned (.string s)) HE.out, rfl⟩
set_option maxRecDepth 100000 in
theorem formatInt_any (n : Nat) (hn : n < 100) (w : World) :
    Calls Tryz.prog 197 #[.int .i64 n, .int .i64 10] w fun e w' => e = .returned (.string ⟨(decW n).toArray⟩) ∧ w' = w := by
  have h0 : (0 : Int) ≤ (n : Int) := by omega
  have h1 : (n : Int) < 100 := by omega
  go_enter Tryz.func197, Tryz.ntmps197
  go_wp2_with (go_at_call 219; refine (small_any n hn _).mono ?_; rintro e w' ⟨rfl, rfl⟩)
  go_ret
  exact ⟨rfl, rfl⟩
set_option maxRecDepth 100000 in
theorem itoaIn_any (n : Nat) (hn : n < 100) (w : World) :
    Calls Tryz.prog 172 #[.int .i64 n] w fun e w' => e = .returned (.string ⟨(decW n).toArray⟩) ∧ w' = w := by
  have h0 : (0 : Int) ≤ (n : Int) := by omega
  have h1 : (n : Int) < 100 := by omega
  go_enter Tryz.func172, Tryz.ntmps172
  go_wp2_with (go_at_call 197; refine (formatInt_any n hn _).mono ?_; rintro e w' ⟨rfl, rfl⟩)
  go_ret
  exact ⟨rfl, rfl⟩
set_option maxRecDepth 100000 in
theorem itoa_any (n : Nat) (hn : n < 100) (w : World) :
    Calls Tryz.prog 141 #[.int .i64 n] w fun e w' => e = .returned (.string ⟨(decW n).toArray⟩) ∧ w' = w := by
  have h0 : (0 : Int) ≤ (n : Int) := by omega
  have h1 : (n : Int) < 100 := by omega
  go_enter Tryz.func141, Tryz.ntmps141
  go_wp2_with (go_at_call 172; refine (itoaIn_any n hn _).mono ?_; rintro e w' ⟨rfl, rfl⟩)
  go_ret
  exact ⟨rfl, rfl⟩
/-- the same, of a number as it stands in memory -/
theorem itoa_at (v : Int) (h0 : 0 ≤ v) (h1 : v < 100) (w : World) :
    Calls Tryz.prog 141 #[.int .i64 v] w fun e w' => e = .returned (.string ⟨(decW v).toArray⟩) ∧ w' = w := by
  obtain ⟨n, rfl⟩ : ∃ n : Nat, v = n := ⟨v.toNat, by omega⟩
  exact itoa_any n (by omega) w
theorem decW_len (v : Int) : (decW v).length ≤ 2 := by unfold decW; split <;> simp
/-- the same; the text is short, and what it is stays hidden -/
def ItoaPost (v : Int) (w : World) (e : Ending) (w' : World) : Prop := ∃ s : ByteArray, e = .returned (.string s) ∧ Hid (s = ⟨(decW v).toArray⟩) ∧ s.size ≤ 2 ∧ w' = w
theorem itoa_str (v : Int) (h0 : 0 ≤ v) (h1 : v < 100) (w : World) : Calls Tryz.prog 141 #[.int .i64 v] w (ItoaPost v w) :=
  (itoa_at v h0 h1 w).mono fun _e _w' h => ⟨_, h.1, rfl, decW_len v, h.2⟩
theorem cat_str (a b : List B) : (⟨a.toArray⟩ : ByteArray) ++ ⟨b.toArray⟩ = ⟨(a ++ b).toArray⟩ := by
  apply ByteArray.ext
  rw [ByteArray.data_append]
  simp
/-- is it a right pair of numbers? -/
def oftOk (lo hi : Int) : Prop := (lo = 0 ∧ hi = -1) ∨ (lo = 1 ∧ hi = -1) ∨ (0 ≤ lo ∧ lo ≤ hi ∧ hi ≤ 64)
set_option maxRecDepth 100000 in
set_option maxHeartbeats 400000 in
theorem often_any (lo hi : Int) (h : oftOk lo hi) (w : World) :
    Calls Tryz.prog 102 #[.int .i64 lo, .int .i64 hi] w fun e w' => e = .returned (.string ⟨(oftenW lo hi).toArray⟩) ∧ w' = w := by
  rcases h with ⟨rfl, rfl⟩ | ⟨rfl, rfl⟩ | ⟨h0, h1, h2⟩
  · go_enter Tryz.func102, Tryz.ntmps102
    go_wp2
    go_ret
    exact ⟨rfl, rfl⟩
  · go_enter Tryz.func102, Tryz.ntmps102
    go_wp2
    go_ret
    exact ⟨rfl, rfl⟩
  · have e1 : (hi == -1) = false := by simp; omega
    by_cases hb : lo = 0 ∧ hi = 1
    · obtain ⟨rfl, rfl⟩ := hb
      go_enter Tryz.func102, Tryz.ntmps102
      go_wp2
      go_ret
      exact ⟨rfl, rfl⟩
    · have hW : Hid (oftenW lo hi = if lo = hi then 123 :: (decW lo ++ [125]) else 123 :: (decW lo ++ 44 :: (decW hi ++ [125]))) := by
        show _ = _
        unfold oftenW
        rw [if_neg (by omega), if_neg (by omega), if_neg hb]
      have e2 : ((lo == 0) && (hi == 1)) = false := by
        by_cases h : lo = 0
        · have : hi ≠ 1 := fun e => hb ⟨h, e⟩
          simp [this]
        · simp [h]
      have n1 : ¬ hi = -1 := by omega
      have HB := hid hb
      clear hb e1 e2
      have h65 : hi < 100 := by omega
      have h66 : lo < 100 := by omega
      have h67 : 0 ≤ hi := by omega
      by_cases he : lo = hi
      · subst he
        have HR := hid ((hW.out).trans (if_pos rfl))
        clear hW h1 h2
        rcases (by omega : lo = 0 ∨ lo = 1 ∨ 2 ≤ lo) with rfl | rfl | h3
        · go_enter Tryz.func102, Tryz.ntmps102
          go_wp2_with (go_at_call 141; refine (itoa_str 0 (by decide) (by decide) _).mono ?_; rintro e w' ⟨sA, rfl, hsA, hlA, rfl⟩)
          go_ret
          rw [HR.out]
          refine ⟨congrArg (fun s => Ending.returned (.string s)) ?_, rfl⟩
          rw [show sA = _ from hsA]
          apply ByteArray.ext
          simp
        · go_enter Tryz.func102, Tryz.ntmps102
          go_wp2_with (go_at_call 141; refine (itoa_str 1 (by decide) (by decide) _).mono ?_; rintro e w' ⟨sA, rfl, hsA, hlA, rfl⟩)
          go_ret
          rw [HR.out]
          refine ⟨congrArg (fun s => Ending.returned (.string s)) ?_, rfl⟩
          rw [show sA = _ from hsA]
          apply ByteArray.ext
          simp
        · have h4 : ¬ lo = 0 := by omega
          have h5 : ¬ lo = 1 := by omega
          clear h3
          go_enter Tryz.func102, Tryz.ntmps102
          go_wp2_with (go_at_call 141; refine (itoa_str lo h0 h66 _).mono ?_; rintro e w' ⟨sA, rfl, hsA, hlA, rfl⟩)
          go_ret
          rw [HR.out]
          refine ⟨congrArg (fun s => Ending.returned (.string s)) ?_, rfl⟩
          rw [show sA = _ from hsA]
          apply ByteArray.ext
          simp
      · have HR := hid ((hW.out).trans (if_neg he))
        clear hW h1 h2
        rcases (by omega : lo = 0 ∨ lo = 1 ∨ 2 ≤ lo) with rfl | rfl | h3
        · have h4 : ¬ hi = 1 := fun e => HB.out ⟨rfl, e⟩
          have h5 : ¬ (0 = hi) := he
          go_enter Tryz.func102, Tryz.ntmps102
          go_wp2_with (first | (go_at_call 141; refine (itoa_str 0 (by decide) (by decide) _).mono ?_; rintro e w' ⟨sA, rfl, hsA, hlA, rfl⟩) | (go_at_call 141; refine (itoa_str hi h67 h65 _).mono ?_; rintro e w' ⟨sB, rfl, hsB, hlB, rfl⟩))
          go_ret
          rw [HR.out]
          refine ⟨congrArg (fun s => Ending.returned (.string s)) ?_, rfl⟩
          rw [show sA = _ from hsA, show sB = _ from hsB]
          apply ByteArray.ext
          simp
        · have h5 : ¬ (1 = hi) := he
          go_enter Tryz.func102, Tryz.ntmps102
          go_wp2_with (first | (go_at_call 141; refine (itoa_str 1 (by decide) (by decide) _).mono ?_; rintro e w' ⟨sA, rfl, hsA, hlA, rfl⟩) | (go_at_call 141; refine (itoa_str hi h67 h65 _).mono ?_; rintro e w' ⟨sB, rfl, hsB, hlB, rfl⟩))
          go_ret
          rw [HR.out]
          refine ⟨congrArg (fun s => Ending.returned (.string s)) ?_, rfl⟩
          rw [show sA = _ from hsA, show sB = _ from hsB]
          apply ByteArray.ext
          simp
        · have h4 : ¬ lo = 0 := by omega
          have h5 : ¬ lo = 1 := by omega
          clear h3
          go_enter Tryz.func102, Tryz.ntmps102
          go_wp2_with (first | (go_at_call 141; refine (itoa_str lo h0 h66 _).mono ?_; rintro e w' ⟨sA, rfl, hsA, hlA, rfl⟩) | (go_at_call 141; refine (itoa_str hi h67 h65 _).mono ?_; rintro e w' ⟨sB, rfl, hsB, hlB, rfl⟩))
          go_ret
          rw [HR.out]
          refine ⟨congrArg (fun s => Ending.returned (.string s)) ?_, rfl⟩
          rw [show sA = _ from hsA, show sB = _ from hsB]
          apply ByteArray.ext
          simp
end Go.Proofs.YtfljcfdfgojdoaaGreatDoor.Sh

namespace Go.Proofs.YtfljcfdfgojdoaaGreatDoor.Sh
open Go.RowKit Go.Lib Go.Proofs.YtfljcfdfgojdoaaGreatDoor

/-- a row of bytes of one's own -/
abbrev OwnB (w : World) (base : Nat) (v : Value) (l : List B) : Prop := w.ownsRow base 5 1 v l.length (l.map bV)
/-- what holds no bytes lies as it lay -/
def NB (w w' : World) : Prop := ∀ (k : Nat) (o : Obj), w.heap[k]? = some o → (∀ cur fr, o ≠ .cells cur 5 fr) → w'.heap[k]? = some o
theorem NB.refl (w : World) : NB w w := fun _ _ h _ => h
theorem NB.trans {a b c : World} (h : NB a b) (k : NB b c) : NB a c := fun i o hi ho => k i o (h i o hi ho) ho
theorem NB.alloc {w w1 : World} (h : NB w w1) (o : Obj) : NB w (w1.alloc o) := fun i x hi hx => (alloc_old (lt_of_heap (h i x hi hx))).trans (h i x hi hx)
theorem NB.drew {w w1 : World} (h : NB w w1) : NB w w1.drew := h
theorem nb_grown {base n : Nat} {w w' : World} {v : Value} {xs : List Value} (h : w.ownsRow base 5 1 v n xs) (hg : w.grownBy w' v.ownBlock) : NB w w' := fun k o hk ho =>
  (hg.block k (lt_of_heap hk) fun e => by
    rcases h.2 with ⟨rfl, _⟩ | ⟨g, cap, cur, rfl, _, h3, _⟩
    · cases e
    · have e2 : k = g := Option.some.inj e
      subst e2
      rw [h3] at hk; cases hk
      exact ho _ _ rfl).trans hk
/-- what a function hands back that puts bytes behind a row -/
def RowPost (base : Nat) (l : List B) (w : World) (e : Ending) (w' : World) : Prop := ∃ v', e = .returned v' ∧ OwnB w' base v' l ∧ Below base w w' ∧ NB w w'
theorem own_app {w : World} {base : Nat} {v : Value} {l m : List B} (h : w.ownsRow base 5 1 v (l.length + m.length) (l.map bV ++ m.map bV)) : OwnB w base v (l ++ m) := by
  unfold OwnB; rw [List.length_append, List.map_append]; exact h
theorem below_grown {base : Nat} {w w' : World} {v : Value} {n e size : Nat} {xs : List Value} (h : w.ownsRow base e size v n xs) (hg : w.grownBy w' v.ownBlock) (hb : base ≤ w.heap.size) : Below base w w' :=
  ⟨hg.os, hg.tape, hg.output, hg.size, fun k hk => hg.block k (by omega) fun e => by have := (h.lt k e.symm).1; omega⟩
theorem cells_at {W : World} {b : Nat} {m : List B} {T : TypeId} (h : W.heap[b]? = some (.cells (m.map bV).toArray T (0, 0))) : ∀ (j : Nat) (u : Value), (m.map bV)[j]? = some u → W.cell? ((⟨b, 0, none⟩ : Addr).add j) = some u := by
  intro j u hu
  rw [Addr.add_lit, Nat.zero_add]
  exact cell_blk h (by simpa using hu)
theorem bytes_one (m : List B) : ∀ u ∈ m.map bV, u.oneCell' = true := by
  intro u hu
  obtain ⟨c, _, rfl⟩ := List.mem_map.1 hu
  rfl
theorem heap_b {w : World} {cs : Array Value} {m : List B} (h : (m.map bV).toArray = cs) : (w.alloc (.cells cs 5)).heap[w.heap.size]? = some (.cells (m.map bV).toArray 5 (0, 0)) := by rw [h]; exact heap_alloc_new _ _
theorem OwnB.below {w w' : World} {base : Nat} {v : Value} {l : List B} (h : OwnB w base v l) (k : Below w.heap.size w w') : OwnB w' base v l := ownsRow_same h fun _ _ hg _ => k.block _ (lt_of_heap hg)
theorem app_out {w w' : World} {base : Nat} {v : Value} {l : List B} {C : Value → World → Prop} (h2 : OwnB w' base v l) (h3 : Below base w w') (h4 : NB w w')
    (h : ∀ ad n cp w', Hid (n = l.length) → OwnB w' base (.slice ad n cp) l → Below base w w' → NB w w' → C (.slice ad n cp) w') : C v w' := by
  obtain ⟨ad, cp, rfl⟩ := own_shape h2
  exact h ad _ cp w' rfl h2 h3 h4
abbrev sixB : ByteArray := ⟨#[48, 49, 50, 51, 52, 53, 54, 55, 56, 57, 97, 98, 99, 100, 101, 102]⟩
theorem hexs' : ∀ n : Fin 16, (sixB[n.1]'n.2).toNat = (hexD n.1).toNat := by decide
theorem hexs (n : Nat) (h : n < 16) : (sixB[n]'h).toNat = (hexD n).toNat := hexs' ⟨n, h⟩
set_option maxRecDepth 100000 in
theorem and15' : ∀ c : Fin 256, bits .and .u8 (c.1 : Int) 15 = ((c.1 % 16 : Nat) : Int) := by decide
theorem and15 (c : B) : bits .and .u8 (c.toNat : Int) 15 = ((c.toNat : Int) % 16) := and15' ⟨c.toNat, c.toNat_lt⟩
section
variable {w : World} {ops : Array Oper} {rest : List Oper} {o : Oper} {a : Act} {Q : Exit → Act → World → Prop} {K : Act → World → Prop}
theorem wp_app {E : Prop} (hgd : o.guard = none) (s x : Operand) (ho : o.op = .call { callee := .builtin .append, args := #[s, x], argTypes := #[73, 73] })
    (base : Nat) (v : Value) (l : List B) (hs : a.eval s = v) (hown : OwnB w base v l) (g : Nat) (m : List B) (c : Nat) (hx : a.eval x = .slice (some ⟨g, 0, none⟩) m.length c)
    (hg : w.heap[g]? = some (.cells (m.map bV).toArray 5 (0, 0))) (hlen : l.length + m.length ≤ 140737488355328) (hbase : base ≤ w.heap.size)
    (h : ∀ ad n cp w', Hid (n = (l ++ m).length) → OwnB w' base (.slice ad n cp) (l ++ m) → Below base w w' → NB w w' → K (a.put o.dst (.slice ad n cp)) w') : if Region.wanted o (yielded ops a.tmps) = true then Oper.wp Tryz.prog o a w K Q else E := by
  rw [if_pos (by simp [Region.wanted, hgd])]
  obtain ⟨i0, hi, hz0, hz1, hz2⟩ := info_parts infoB
  exact wp_append_own w s x 73 ho base 5 i0 (.int .u8 0) 1 1 Tryz.underlying73 hi hz0 hz1 hz2 rfl (by decide) v l.length (l.map bV) hs hown ⟨g, 0, none⟩ m.length c (m.map bV) hx (by simp) (cells_at hg) (bytes_one m)
    (by unfold maxLen; omega) (by omega) hbase fun v' w' h2 h3 _ => app_out (C := fun v w' => K (a.put o.dst v) w') (own_app h2) (below_grown hown h3 hbase) (nb_grown hown h3) h
theorem wpList_app (hgd : o.guard = none) (s x : Operand) (ho : o.op = .call { callee := .builtin .append, args := #[s, x], argTypes := #[73, 73] })
    (base : Nat) (v : Value) (l : List B) (hs : a.eval s = v) (hown : OwnB w base v l) (g : Nat) (m : List B) (c : Nat) (hx : a.eval x = .slice (some ⟨g, 0, none⟩) m.length c)
    (hg : w.heap[g]? = some (.cells (m.map bV).toArray 5 (0, 0))) (hlen : l.length + m.length ≤ 140737488355328) (hbase : base ≤ w.heap.size)
    (h : ∀ ad n cp w', Hid (n = (l ++ m).length) → OwnB w' base (.slice ad n cp) (l ++ m) → Below base w w' → NB w w' → wpList Tryz.prog ops Q rest (a.put o.dst (.slice ad n cp)) w') : wpList Tryz.prog ops Q (o :: rest) a w := by
  obtain ⟨i0, hi, hz0, hz1, hz2⟩ := info_parts infoB
  exact wpList_append_own w hgd s x 73 ho base 5 i0 (.int .u8 0) 1 1 Tryz.underlying73 hi hz0 hz1 hz2 rfl (by decide) v l.length (l.map bV) hs hown ⟨g, 0, none⟩ m.length c (m.map bV) hx (by simp) (cells_at hg) (bytes_one m)
    (by unfold maxLen; omega) (by omega) hbase fun v' w' h2 h3 _ => app_out (C := fun v w' => wpList Tryz.prog ops Q rest (a.put o.dst v) w') (own_app h2) (below_grown hown h3 hbase) (nb_grown hown h3) h
theorem wpList_app_str (hgd : o.guard = none) (s x : Operand) (ho : o.op = .call { callee := .builtin .append, args := #[s, x], argTypes := #[73, 9] })
    (base : Nat) (v : Value) (l : List B) (hs : a.eval s = v) (hown : OwnB w base v l) (t : ByteArray) (hx : a.eval x = .string t)
    (hlen : l.length + t.size ≤ 140737488355328) (hbase : base ≤ w.heap.size)
    (h : ∀ ad n cp w', Hid (n = (l ++ t.data.toList).length) → OwnB w' base (.slice ad n cp) (l ++ t.data.toList) → Below base w w' → NB w w' → wpList Tryz.prog ops Q rest (a.put o.dst (.slice ad n cp)) w') : wpList Tryz.prog ops Q (o :: rest) a w := by
  obtain ⟨i0, hi, hz0, hz1, hz2⟩ := info_parts infoB
  exact wpList_append_own_string w hgd s x 73 9 ho base 5 i0 Tryz.underlying73 Tryz.underlying9 hi hz0 hz1 hz2 v l.length (l.map bV) hs hown t hx
    (by unfold maxLen; omega) hlen hbase fun v' w' h2 h3 _ => app_out (C := fun v w' => wpList Tryz.prog ops Q rest (a.put o.dst v) w') (own_app (m := t.data.toList) (by rw [show t.data.toList.length = t.size from Array.length_toList]; exact h2)) (below_grown hown h3 hbase) (nb_grown hown h3) h
end
set_option maxRecDepth 100000 in
set_option maxHeartbeats 1000000 in
theorem written_any {base : Nat} {w : World} {v : Value} {l : List B} (h : OwnB w base v l) (hb : base ≤ w.heap.size) (hl : l.length ≤ 70368744177664) (c : B) :
    Calls Tryz.prog 132 #[v, .int .u8 c.toNat] w (RowPost base (l ++ escB c) w) := by
  obtain ⟨ad, cp, rfl⟩ := own_shape h
  have HO := hid h
  clear h
  by_cases h1 : c = 10
  · subst h1
    go_enter Tryz.func132, Tryz.ntmps132
    go_wp2_with (at_builtin; refine wpList_app_str rfl (.tmp 21) (.const (.string ⟨#[92, 110]⟩)) rfl base (.slice ad l.length cp) l rfl HO.out ⟨#[92, 110]⟩ rfl (by show l.length + 2 ≤ _; omega) hb ?_; intro ad1 n1 cp1 w1 hn ho hb1 hnb; have HR := hid ho; have HB := hid hb1; have HN := hid hnb; clear ho hb1 hnb)
    go_ret
    exact ⟨_, rfl, HR.out, HB.out, HN.out⟩
  by_cases h2 : c = 9
  · subst h2
    go_enter Tryz.func132, Tryz.ntmps132
    go_wp2_with (at_builtin; refine wpList_app_str rfl (.tmp 23) (.const (.string ⟨#[92, 116]⟩)) rfl base (.slice ad l.length cp) l rfl HO.out ⟨#[92, 116]⟩ rfl (by show l.length + 2 ≤ _; omega) hb ?_; intro ad1 n1 cp1 w1 hn ho hb1 hnb; have HR := hid ho; have HB := hid hb1; have HN := hid hnb; clear ho hb1 hnb)
    go_ret
    exact ⟨_, rfl, HR.out, HB.out, HN.out⟩
  by_cases h3 : c = 13
  · subst h3
    go_enter Tryz.func132, Tryz.ntmps132
    go_wp2_with (at_builtin; refine wpList_app_str rfl (.tmp 25) (.const (.string ⟨#[92, 114]⟩)) rfl base (.slice ad l.length cp) l rfl HO.out ⟨#[92, 114]⟩ rfl (by show l.length + 2 ≤ _; omega) hb ?_; intro ad1 n1 cp1 w1 hn ho hb1 hnb; have HR := hid ho; have HB := hid hb1; have HN := hid hnb; clear ho hb1 hnb)
    go_ret
    exact ⟨_, rfl, HR.out, HB.out, HN.out⟩
  have HC := hid (And.intro h1 (And.intro h2 h3))
  have n1 : ((c.toNat : Int) == 10) = false := by simp; intro e; exact h1 (UInt8.toNat_inj.1 (show c.toNat = 10 by omega))
  have n2 : ((c.toNat : Int) == 9) = false := by simp; intro e; exact h2 (UInt8.toNat_inj.1 (show c.toNat = 9 by omega))
  have n3 : ((c.toNat : Int) == 13) = false := by simp; intro e; exact h3 (UInt8.toNat_inj.1 (show c.toNat = 13 by omega))
  clear h1 h2 h3
  by_cases h4 : 0 ≤ indexByte special c
  · have HE := hid (show escB c = [92, c] by unfold escB; rw [if_neg HC.out.1, if_neg HC.out.2.1, if_neg HC.out.2.2, if_pos h4])
    have h4' : 0 ≤ indexByte [92, 34, 91, 93, 94, 45] c := h4
    go_enter Tryz.func132, Tryz.ntmps132
    go_wp2_with (first | (go_at_call 157; refine (indexByte_any _ _ _).mono ?_; rintro e w' ⟨rfl, rfl⟩) | (at_builtin; refine wpList_app rfl (.tmp 27) (.tmp 28) rfl base (.slice ad l.length cp) l rfl (HO.out.alloc _) w.heap.size [92] 1 rfl (heap_b rfl) (by show l.length + 1 ≤ _; omega) (by simp; omega) ?_; intro ad1 n1 cp1 w1 hn1 ho hb1 hnb; have HN1 := hid (((NB.refl w).alloc _).trans hnb); have HO1 := hid ho; have HB1 := hid (((Below.refl base w).alloc hb _).trans hb1); have hb1s := hb1.size; clear ho hb1 hnb) | (at_builtin; refine wpList_app rfl (.tmp 30) (.tmp 32) rfl base (.slice ad1 n1 cp1) (l ++ [92]) rfl (HO1.out.alloc _) w1.heap.size [c] 1 rfl (heap_b rfl) (by simp; omega) (by simp at hb1s ⊢; omega) ?_; intro ad2 n2 cp2 w2 hn2 ho hb2 hnb; have HN2 := hid (HN1.out.trans (((NB.refl w1).alloc _).trans hnb)); have HO2 := hid ho; have HB2 := hid (HB1.out.trans (((Below.refl base w1).alloc (by simp at hb1s; omega) _).trans hb2)); clear ho hb2 hnb))
    go_ret
    exact ⟨_, rfl, by rw [HE.out]; have := HO2.out; rw [List.append_assoc] at this; exact this, HB2.out, HN2.out⟩
  · have h4' : ¬ 0 ≤ indexByte [92, 34, 91, 93, 94, 45] c := h4
    cases h5 : plainB c with
    | true =>
      have HE := hid (show escB c = [c] by unfold escB; rw [if_neg HC.out.1, if_neg HC.out.2.1, if_neg HC.out.2.2, if_neg h4, if_pos h5])
      have HP := hid h5
      clear h4 h5
      go_enter Tryz.func132, Tryz.ntmps132
      go_wp2_with (first | (go_at_call 157; refine (indexByte_any _ _ _).mono ?_; rintro e w' ⟨rfl, rfl⟩) | (go_at_call 158; refine (plain_any _ _).mono ?_; rintro e w' ⟨rfl, rfl⟩; rw [HP.out]) | (at_builtin; refine wpList_app rfl (.tmp 30) (.tmp 32) rfl base (.slice ad l.length cp) l rfl (HO.out.alloc _) w.heap.size [c] 1 rfl (heap_b rfl) (by show l.length + 1 ≤ _; omega) (by simp; omega) ?_; intro ad1 n1 cp1 w1 hn ho hb1 hnb; have HR := hid ho; have HB := hid (((Below.refl base w).alloc hb _).trans hb1); have HN := hid (((NB.refl w).alloc _).trans hnb); clear ho hb1 hnb))
      go_ret
      exact ⟨_, rfl, by rw [HE.out]; exact HR.out, HB.out, HN.out⟩
    | false =>
      have HE := hid (show escB c = [92, 120, hexD (c.toNat / 16), hexD (c.toNat % 16)] by unfold escB; rw [if_neg HC.out.1, if_neg HC.out.2.1, if_neg HC.out.2.2, if_neg h4, if_neg (by rw [h5]; simp)])
      have HP := hid h5
      clear h4 h5
      go_enter Tryz.func132, Tryz.ntmps132
      go_upto_region 11 with (first | (go_at_call 157; refine (indexByte_any _ _ _).mono ?_; rintro e w' ⟨rfl, rfl⟩) | (go_at_call 158; refine (plain_any _ _).mono ?_; rintro e w' ⟨rfl, rfl⟩; rw [HP.out]))
      have h256 : c.toNat < 256 := c.toNat_lt
      have HS := hid (show (fun W : World => True) w.drew from trivial)
      refine wp_region_held_drew (S := (fun W : World => True)) (by kernel_rfl) HS.out (fun _ => ?_)
      refine wpAnyH_take (i := 0) (v := .slice ad l.length cp) rfl (by kernel_rfl) (by kernel_rfl) (by kernel_rfl) (fun _ _ _ h => h) (Or.inl ⟨by rfl, fun w hS => by go_simp⟩) HS.out ?_
      simp only [Act.put, List.getElem_toArray, List.getElem_cons_zero, List.setIfInBounds_toArray, List.set_cons_zero, List.set_cons_succ]
      refine wpAnyH_take (i := 1) (v := .int .u8 c.toNat) rfl (by kernel_rfl) (by kernel_rfl) (by kernel_rfl) (fun _ _ _ h => h) (Or.inl ⟨by rfl, fun w hS => by go_simp⟩) HS.out ?_
      simp only [Act.put, List.getElem_toArray, List.getElem_cons_zero, List.getElem_cons_succ, List.setIfInBounds_toArray, List.set_cons_zero, List.set_cons_succ]
      refine wpAnyH_take (i := 2) (v := .int .u8 (c.toNat / 16 : Nat)) rfl (by kernel_rfl) (by kernel_rfl) (by kernel_rfl) (fun _ _ _ h => h) (Or.inl ⟨by rfl, fun w hS => by go_simp⟩) HS.out ?_
      simp only [Act.put, List.getElem_toArray, List.getElem_cons_zero, List.getElem_cons_succ, List.setIfInBounds_toArray, List.set_cons_zero, List.set_cons_succ]
      refine wpAnyH_take (i := 3) (v := .int .u8 (hexD (c.toNat / 16)).toNat) rfl (by kernel_rfl) (by kernel_rfl) (by kernel_rfl) (fun _ _ _ h => h) (Or.inl ⟨by rfl, fun w hS => by go_simp; rw [dif_pos (by omega)]; simp only [show ((c.toNat : Int) / 16).toNat = c.toNat / 16 by omega]; exact congrArg (fun n : Nat => Result.ok (Next.value (.int .u8 n)) w) (hexs _ (by omega))⟩) HS.out ?_
      simp only [Act.put, List.getElem_toArray, List.getElem_cons_zero, List.getElem_cons_succ, List.setIfInBounds_toArray, List.set_cons_zero, List.set_cons_succ]
      refine wpAnyH_take (i := 4) (v := .int .u8 c.toNat) rfl (by kernel_rfl) (by kernel_rfl) (by kernel_rfl) (fun _ _ _ h => h) (Or.inl ⟨by rfl, fun w hS => by go_simp⟩) HS.out ?_
      simp only [Act.put, List.getElem_toArray, List.getElem_cons_zero, List.getElem_cons_succ, List.setIfInBounds_toArray, List.set_cons_zero, List.set_cons_succ]
      refine wpAnyH_take (i := 5) (v := .int .u8 (c.toNat % 16 : Nat)) rfl (by kernel_rfl) (by kernel_rfl) (by kernel_rfl) (fun _ _ _ h => h) (Or.inl ⟨by rfl, fun w hS => by go_simp; exact and15 c⟩) HS.out ?_
      simp only [Act.put, List.getElem_toArray, List.getElem_cons_zero, List.getElem_cons_succ, List.setIfInBounds_toArray, List.set_cons_zero, List.set_cons_succ]
      refine wpAnyH_take (i := 6) (v := .int .u8 (hexD (c.toNat % 16)).toNat) rfl (by kernel_rfl) (by kernel_rfl) (by kernel_rfl) (fun _ _ _ h => h) (Or.inl ⟨by rfl, fun w hS => by go_simp; rw [dif_pos (by omega)]; simp only [show ((c.toNat : Int) % 16).toNat = c.toNat % 16 by omega]; exact congrArg (fun n : Nat => Result.ok (Next.value (.int .u8 n)) w) (hexs _ (by omega))⟩) HS.out ?_
      simp only [Act.put, List.getElem_toArray, List.getElem_cons_zero, List.getElem_cons_succ, List.setIfInBounds_toArray, List.set_cons_zero, List.set_cons_succ]
      refine wpAnyH_ready (rs := [7]) (by kernel_rfl) (by simp) (AllReadyH.cons rfl (fun K hK => ?_) AllReadyH.nil)
      go_simp
      refine hK.out _ _ trivial (fun _ => ?_)
      clear hK K
      refine wpAnyH_ready (rs := [8]) (by kernel_rfl) (by simp) (AllReadyH.cons rfl (fun K hK => ?_) AllReadyH.nil)
      refine wp_app rfl (.tmp 34) (.tmp 41) rfl base (.slice ad l.length cp) l rfl (HO.out.alloc _) w.heap.size [92, 120, hexD (c.toNat / 16), hexD (c.toNat % 16)] 4 rfl (heap_b rfl) (by show l.length + 4 ≤ _; omega) (by simp; omega) ?_
      intro ad1 n1 cp1 w1 hn ho hb1 hnb
      have HR := hid ho
      have HN := hid ((((NB.refl w).drew).alloc _).trans hnb)
      have HB := hid ((((Below.refl base w).drew).alloc hb _).trans hb1)
      clear ho hb1 hnb
      refine hK.out _ _ trivial (fun _ => ?_)
      clear hK K
      simp only [Act.put, List.getElem_toArray, List.getElem_cons_zero, List.getElem_cons_succ, List.setIfInBounds_toArray, List.set_cons_zero, List.set_cons_succ]
      refine wpAnyH_take (i := 9) (v := .slice ad1 n1 cp1) rfl (by kernel_rfl) (by kernel_rfl) (by kernel_rfl) (fun _ _ _ h => h) (Or.inl ⟨by rfl, fun w hS => by go_simp⟩) HS.out ?_
      simp only [Act.put, List.getElem_toArray, List.getElem_cons_zero, List.getElem_cons_succ, List.setIfInBounds_toArray, List.set_cons_zero, List.set_cons_succ]
      refine wpAnyH_done (by kernel_rfl) ?_ _
      go_wp2_with fail
      go_ret
      exact ⟨_, rfl, by rw [HE.out]; exact HR.out, HB.out, HN.out⟩
end Go.Proofs.YtfljcfdfgojdoaaGreatDoor.Sh
