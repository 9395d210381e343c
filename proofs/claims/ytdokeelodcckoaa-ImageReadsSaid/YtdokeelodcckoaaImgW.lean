/-
  What the writer of images keeps in memory, and the contracts of its small methods: put, number, bit.
-/
import Derived.Test.YtdokeelodcckoaaLx1
import Derived.Test.YtdokeelodcckoaaImgM
import Derived.Laws.BytesString
namespace Go.Proofs.Ytdokeelodcckoaa.Im
open Go.RowKit Go.Lib

abbrev bV (c : B) : Value := .int .u8 c.toNat
theorem bnext {w w1 w2 : World} (h : Below w.heap.size w w1) (k : Below w1.heap.size w1 w2) : Below w.heap.size w w2 := h.trans (k.mono h.size)
theorem bbox {w w1 : World} (h : Below w.heap.size w w1) (o : Obj) : Below w.heap.size w (w1.alloc o) := h.alloc h.size o
theorem alloc_old {w : World} {o : Obj} {k : Nat} (h : k < w.heap.size) : (w.alloc o).heap[k]? = w.heap[k]? := Below.heap_alloc _ _ _ h
theorem own_shape {w : World} {base e size n : Nat} {v : Value} {xs : List Value} (h : w.ownsRow base e size v n xs) : ∃ a cap, v = .slice a n cap := by
  rcases h.2 with ⟨rfl, rfl⟩ | ⟨g, cap, cur, rfl, _⟩
  · exact ⟨none, 0, rfl⟩
  · exact ⟨_, _, rfl⟩
theorem cell_box {w : World} {P : Nat} {v : Value} {T : TypeId} (h : w.heap[P]? = some (.cells #[v] T (0, 0))) : w.cell? ⟨P, 0, none⟩ = some v := by simp [World.cell?, h]
theorem free_box {w : World} {P i : Nat} {cs : Array Value} {T : TypeId} (h : w.heap[P]? = some (.cells cs T (0, 0))) : w.frozen? ⟨P, i, none⟩ = false := by simp [World.frozen?, h]
theorem lt_of_heap {w : World} {P : Nat} {o : Obj} (h : w.heap[P]? = some o) : P < w.heap.size := (Array.getElem?_eq_some_iff.1 h).1
theorem box_set {w : World} {P : Nat} {v : Value} {T : TypeId} (v' : Value) (h : w.heap[P]? = some (.cells #[v] T (0, 0))) : (w.setCell ⟨P, 0, none⟩ v').heap[P]? = some (.cells #[v'] T (0, 0)) := by
  rw [heap_setCell_same _ _ _ _ _ _ h]; rfl
theorem box_other {w : World} {P k : Nat} (v' : Value) (h : k ≠ P) : (w.setCell ⟨P, 0, none⟩ v').heap[k]? = w.heap[k]? := heap_setCell_other _ _ _ _ h
theorem ownsRow_same {w w' : World} {base e size n : Nat} {v : Value} {xs : List Value} (h : w.ownsRow base e size v n xs) (hk : ∀ k cur, w.heap[k]? = some (.cells cur e (0, 0)) → base ≤ k → w'.heap[k]? = w.heap[k]?) : w'.ownsRow base e size v n xs := by
  refine ⟨h.1, ?_⟩
  rcases h.2 with hn | ⟨g, cap, cur, hv, hb, hg, rest⟩
  · exact .inl hn
  · exact .inr ⟨g, cap, cur, hv, hb, (hk g cur hg hb).trans hg, rest⟩

/-- the writer in block P has been given l: what it holds is l, or both are too long -/
def WOwn (P : Nat) (w : World) (l : List B) : Prop :=
  ∃ v a, w.heap[P]? = some (.cells #[v] 54 (0, 0)) ∧ w.ownsRow (P + 1) 5 1 v a.length (a.map bV) ∧ (l.length ≤ most → a = l) ∧ (most < l.length → most < a.length)
/-- what a writer's method leaves of the world: the blocks ahead of the writer, and whatever holds no bytes -/
structure Upd (P : Nat) (w w' : World) : Prop where
  os : w'.os = w.os
  tape : w'.tape = w.tape
  output : w'.output = w.output
  size : w.heap.size ≤ w'.heap.size
  block : ∀ k, k < w.heap.size → k ≠ P → (k < P ∨ ∀ cur fr, w.heap[k]? ≠ some (.cells cur 5 fr)) → w'.heap[k]? = w.heap[k]?
theorem Upd.refl (P : Nat) (w : World) : Upd P w w := ⟨rfl, rfl, rfl, Nat.le_refl _, fun _ _ _ _ => rfl⟩
theorem Upd.trans {P : Nat} {w w1 w2 : World} (h : Upd P w w1) (k : Upd P w1 w2) : Upd P w w2 :=
  ⟨k.os.trans h.os, k.tape.trans h.tape, k.output.trans h.output, Nat.le_trans h.size k.size, fun i hi hp hc => by
    have h1 := h.block i hi hp hc
    exact (k.block i (Nat.lt_of_lt_of_le hi h.size) hp (hc.imp_right fun hc cur fr => by rw [h1]; exact hc cur fr)).trans h1⟩
theorem Upd.alloc {P : Nat} {w w1 : World} (h : Upd P w w1) (o : Obj) : Upd P w (w1.alloc o) :=
  h.trans ⟨rfl, rfl, rfl, by simp, fun _ hi _ _ => alloc_old hi⟩
theorem Upd.row {P : Nat} {w w1 : World} (h : Upd P w w1) {k : Nat} {cur : Array Value} {T : TypeId} {fr : Nat × Nat} (hk : w.heap[k]? = some (.cells cur T fr)) (hT : T ≠ 5) (hp : k ≠ P) : w1.heap[k]? = some (.cells cur T fr) :=
  (h.block k (lt_of_heap hk) hp (.inr fun cur' fr' e => by rw [hk] at e; cases e; exact hT rfl)).trans hk
theorem Upd.low {P : Nat} {w w1 : World} (h : Upd P w w1) (hP : P < w.heap.size) : Below P w w1 :=
  ⟨h.os, h.tape, h.output, h.size, fun k hk => h.block k (by omega) (by omega) (.inl hk)⟩
theorem WOwn.lt {P : Nat} {w : World} {l : List B} (h : WOwn P w l) : P < w.heap.size := by
  obtain ⟨v, a, h1, _⟩ := h; exact lt_of_heap h1
theorem WOwn.alloc {P : Nat} {w : World} {l : List B} (h : WOwn P w l) (o : Obj) : WOwn P (w.alloc o) l := by
  obtain ⟨v, a, h1, h2, h3⟩ := h
  exact ⟨v, a, (alloc_old (lt_of_heap h1)).trans h1, h2.alloc o, h3⟩
theorem infoB : (Try.prog.info? 5).map (fun i => (i.zero, i.size, i.bytes)) = some (some (.int .u8 0), 1, 1) := by kernel_rfl

/-- appending a slice of one type to one of another type, of the same elements -/
theorem run_append_two {P : Program} (w : World) {t u e e' : TypeId} (ty : TypeId) (ht : P.underlying t = some (.slice e)) (hu : P.underlying u = some (.slice e')) (b : Option Addr) (n c : Nat) (x : Value) :
    (Builtin.append_ #[t, u] ty #[.slice b n c, x]).run P w = (Builtin.append_ #[t, t] ty #[.slice b n c, x]).run P w := by
  simp [Builtin.append_, run_underlying ht, run_underlying hu]
theorem wpList_append_two {P : Program} {w : World} {ops : Array Oper} {rest : List Oper} {o : Oper} {a : Act} {Q : Exit → Act → World → Prop} (hgd : o.guard = none) (s x : Operand) (t u : TypeId)
    (ho : o.op = .call { callee := .builtin .append, args := #[s, x], argTypes := #[t, u] })
    (base : Nat) (e : TypeId) (i : TypeInfo) (z : Value) (size bytes : Nat) (ht : P.underlying t = some (.slice e)) (hu : P.underlying u = some (.slice e)) (hi : P.info? e = some i) (hz : i.zero = some z)
    (hsize : i.size = size) (hby : i.bytes = bytes) (hzs : z.cells.size = size) (hsz : 0 < size)
    (v : Value) (n : Nat) (xs : List Value) (hs : a.eval s = v) (hown : w.ownsRow base e size v n xs)
    (ad : Addr) (m c : Nat) (news : List Value) (hx : a.eval x = .slice (some ad) m c) (hl : news.length = m * size) (hnews : ∀ j u, news[j]? = some u → w.cell? (ad.add j) = some u) (h1 : ∀ u ∈ news, u.oneCell' = true)
    (h63 : n + m ≤ maxLen) (hbytes : (n + m) * bytes ≤ 140737488355328) (hbase : base ≤ w.heap.size)
    (h : ∀ v' w', w'.ownsRow base e size v' (n + m) (xs ++ news) → w.grownBy w' v.ownBlock → (v' = .slice none 0 0 ↔ v = .slice none 0 0 ∧ m = 0) → wpList P ops Q rest (a.put o.dst v') w') : wpList P ops Q (o :: rest) a w :=
  wpList_plain hgd fun K hK => by
    obtain ⟨b, cp, rfl⟩ := own_shape hown
    obtain ⟨v', w', hr, h2, h3, h4⟩ := run_append_own (P := P) w base t o.type e i z size bytes ht hi hz hsize hby hzs hsz _ n xs hown ad m c news hl hnews h1 h63 hbytes hbase
    rw [← run_append_two w o.type ht hu] at hr
    unfold Oper.wp execOp
    simp only [ho, resolve, invoke, builtin, Sem.run_bind, Sem.run_pure, Result.andThen_ok, List.map_toArray, List.map_cons, List.map_nil, hs, hx, hr]
    exact hK _ _ (h v' w' h2 h3 h4)

set_option maxRecDepth 100000 in
set_option maxHeartbeats 400000 in
theorem put_any {P : Nat} {w : World} {l b : List B} {g off cap : Nat} (h : WOwn P w l) (hb : ∀ j (hj : j < b.length), w.cell? ⟨g, off + j, none⟩ = some (bV b[j])) (hn : b.length ≤ 140737480000000) :
    Calls Try.prog 37 #[.pointer (some ⟨P, 0, none⟩), .slice (some ⟨g, off, none⟩) b.length cap] w fun e w' => e = .returned (.tuple #[]) ∧ WOwn P w' (l ++ b) ∧ Upd P w w' := by
  obtain ⟨v, a, hblk, hown, h1, h2⟩ := h
  obtain ⟨ad, cp, rfl⟩ := own_shape hown
  have hc := cell_box hblk
  have hf := free_box (i := 0) hblk
  have hP := lt_of_heap hblk
  have HB := hid hblk
  have HO := hid hown
  have H1 := hid h1
  have H2 := hid h2
  clear hblk hown h1 h2
  obtain ⟨i0, hi, hz0, hz1, hz2⟩ := info_parts infoB
  have HI := hid hi
  have HZ := hid (And.intro hz0 (And.intro hz1 hz2))
  have HBB := hid hb
  clear hi hz0 hz1 hz2 hb
  have hlen : (b.map bV).length = b.length * 1 := by simp
  have HL := hid hlen
  clear hlen
  by_cases hle : a.length ≤ most
  · have hle' : (a.length : Int) ≤ 1048576 := by unfold most at hle; omega
    go_enter Try.func37, Try.ntmps37
    go_wp2_with (at_builtin; refine wpList_append_two rfl _ _ 54 26 rfl (P + 1) 5 i0 (.int .u8 0) 1 1 Try.underlying54 Try.underlying26 HI.out HZ.out.1 HZ.out.2.1 HZ.out.2.2 rfl (by decide) _ _ _ rfl HO.out ⟨g, off, none⟩ b.length cap (b.map bV) rfl HL.out ?c1 ?c2 ?c3 ?c4 ?c5 ?_)
    case c1 => intro j u hu; rw [List.getElem?_map] at hu; obtain ⟨c, hc, rfl⟩ := Option.map_eq_some_iff.1 hu; obtain ⟨hj, rfl⟩ := List.getElem?_eq_some_iff.1 hc; rw [Addr.add_lit]; exact HBB.out j hj
    case c2 => intro u hu; obtain ⟨c, _, rfl⟩ := List.mem_map.1 hu; rfl
    case c3 => unfold maxLen; omega
    case c4 => omega
    case c5 => omega
    intro v' w1 hown' hgrow _
    have hne : ∀ k, k = P → some k ≠ (Value.slice ad a.length cp).ownBlock := fun k hk e => by have := HO.out.lt k e.symm; omega
    have hb1 := (hgrow.block P hP (hne P rfl)).trans HB.out
    have hc1 := cell_box hb1
    have hf1 := free_box (i := 0) hb1
    obtain ⟨ad1, cp1, rfl⟩ := own_shape hown'
    have HO1 := hid hown'
    have HG := hid hgrow
    have HB1 := hid hb1
    have HN := hid hne
    clear hown' hgrow hb1 hne
    go_wp2
    go_end0
    refine ⟨rfl, ⟨_, a ++ b, box_set _ HB1.out, ?_, ?_, ?_⟩, ⟨HG.out.os, HG.out.tape, HG.out.output, ?_, ?_⟩⟩
    · have := ownsRow_same HO1.out (w' := w1.setCell ⟨P, 0, none⟩ (.slice ad1 (a.length + b.length) cp1)) (fun k cur hk hb => box_other _ (by omega))
      simpa using this
    · intro hl
      rw [List.length_append] at hl
      rw [H1.out (by omega)]
    · intro hl
      rw [List.length_append] at hl ⊢
      by_cases hl2 : l.length ≤ most
      · rw [H1.out hl2]; exact hl
      · have := H2.out (by omega)
        omega
    · have := HG.out.size
      simpa using this
    · intro k hk hkP hcur
      rw [box_other _ hkP]
      refine HG.out.block k hk fun e => ?_
      rcases HO.out.2 with ⟨h, _⟩ | ⟨g', cap', cur', h, h2, h3, _⟩
      · rw [h] at e; simp [Value.ownBlock] at e
      · rw [h] at e
        simp [Value.ownBlock] at e
        subst e
        rcases hcur with h4 | h4
        · omega
        · exact h4 _ _ h3
  · have hle' : (1048576 : Int) < a.length := by unfold most at hle; omega
    go_enter Try.func37, Try.ntmps37
    go_wp2
    go_end0
    refine ⟨rfl, ⟨_, a, HB.out, HO.out, ?_, ?_⟩, Upd.refl _ _⟩
    · intro hl
      rw [List.length_append] at hl
      have := H1.out (by omega)
      subst this
      omega
    · intro _; omega
end Go.Proofs.Ytdokeelodcckoaa.Im
