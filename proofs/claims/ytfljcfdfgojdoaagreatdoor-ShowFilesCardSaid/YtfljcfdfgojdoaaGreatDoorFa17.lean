/-
  Plain: the tokens of a written expression are parsed as that expression.
  Plain: what is written of a map is lexed into its tokens, and these are parsed as that map.
  Maps in memory, wherever their parts lie; mapLevel; what the closures that write a map have captured.
-/
import Derived.Test.YtfljcfdfgojdoaaGreatDoorFa14
import Derived.Test.YtfljcfdfgojdoaaGreatDoorFa16
import Derived.Test.YtfljcfdfgojdoaaGreatDoorFa07
namespace Go.Proofs.YtfljcfdfgojdoaaGreatDoor.Sh
open Go.RowKit Go.Lib Go.Proofs.YtfljcfdfgojdoaaGreatDoor

/-- these tokens stand in T from a on, places aside -/
def TA (T : List Tok) (a : Nat) : List Tok → Prop
  | [] => True
  | t :: l => (tokAt T a).base = t.base ∧ TA T (a + 1) l
theorem TA.isB {T : List Tok} {a : Nat} {t : Tok} {l : List Tok} (h : TA T a (t :: l)) (s : List B) : isB (tokAt T a) s = Go.Proofs.YtfljcfdfgojdoaaGreatDoor.isB t s := isB_same h.1 s
/-- what may stand behind an expression that is asked for at a level -/
structure Nx (q : Nat) (t : Tok) : Prop where
  r : q ≤ 4 → isB t [42] = false ∧ isB t [43] = false ∧ isB t [63] = false ∧ isB t [123] = false
  c : q ≤ 2 → beginsB t = false ∧ isB t [33] = false
  a : q ≤ 1 → isB t [38] = false
  o : q = 0 → isB t [124] = false
theorem Nx.mono {q q' : Nat} {t : Tok} (h : Nx q t) (hq : q ≤ q') : Nx q' t :=
  ⟨fun k => h.r (by omega), fun k => h.c (by omega), fun k => h.a (by omega), fun k => h.o (by omega)⟩
theorem Nx.same {q : Nat} {t t' : Tok} (h : Nx q t) (he : t'.base = t.base) : Nx q t' :=
  ⟨fun k => by rw [isB_same he, isB_same he, isB_same he, isB_same he]; exact h.r k, fun k => by rw [begins_same he, isB_same he]; exact h.c k,
   fun k => by rw [isB_same he]; exact h.a k, fun k => by rw [isB_same he]; exact h.o k⟩
theorem Nx.shut : Nx 0 (sb 41) := ⟨fun _ => ⟨rfl, rfl, rfl, rfl⟩, fun _ => ⟨rfl, rfl⟩, fun _ => rfl, fun _ => rfl⟩
theorem Nx.ends {t : Tok} (h : Ends t) : Nx 0 t :=
  ⟨fun _ => ⟨h.s 42 (by decide), h.s 43 (by decide), h.s 63 (by decide), h.s 123 (by decide)⟩, fun _ => ⟨h.b, h.s 33 (by decide)⟩, fun _ => h.s 38 (by decide), fun _ => h.s 124 (by decide)⟩
theorem lev_le (r : Re) : lev r ≤ 5 := by
  obtain ⟨k, _, _, _, _, _⟩ := r
  show levK k ≤ 5
  unfold levK
  split <;> (try omega)
  split <;> (try omega)
  split <;> (try omega)
  split <;> (try omega)
  split <;> omega
/-- the first token of an expression -/
def FirstT (q : Nat) (l : List Tok) : Prop := ∃ t m, l = t :: m ∧ (beginsB t = true ∨ isB t [33] = true) ∧ (4 ≤ q → isB t [33] = false)
theorem FirstT.pos {q : Nat} {l : List Tok} (h : FirstT q l) : 1 ≤ l.length := by
  obtain ⟨t, m, rfl, _⟩ := h; simp
theorem partsD_mem {asked : Nat} : ∀ {l : List Re} {p : Re}, p ∈ l → askD p asked ≤ partsD asked l
  | q :: l, p, h => by
    rw [partsD]
    rcases List.mem_cons.1 h with rfl | h
    · exact Nat.le_max_left _ _
    · exact Nat.le_trans (partsD_mem h) (Nat.le_max_right _ _)
/-- what comes behind a part in a row without signs -/
theorem begin_not {t : Tok} (h : beginsB t = true ∨ isB t [33] = true) : isB t [42] = false ∧ isB t [43] = false ∧ isB t [63] = false ∧ isB t [123] = false := by
  obtain ⟨k, x, s, n, p⟩ := t
  unfold beginsB isB at *
  simp only at *
  by_cases hk : k = 4
  · subst hk
    simp only [beq_self_eq_true, Bool.true_and, show ((4 : Int) == 2) = false from rfl, show ((4 : Int) == 3) = false from rfl, show ((4 : Int) == 1) = false from rfl, Bool.false_eq_true, or_self, if_false] at h ⊢
    simp only [Bool.or_eq_true, beq_iff_eq] at h
    rcases h with (rfl | rfl) | rfl
    · exact ⟨rfl, rfl, rfl, rfl⟩
    · exact ⟨rfl, rfl, rfl, rfl⟩
    · exact ⟨rfl, rfl, rfl, rfl⟩
  · have : (k == 4) = false := by simpa using hk
    rw [this]
    exact ⟨rfl, rfl, rfl, rfl⟩
theorem Nx.first {t : Tok} (h : beginsB t = true ∨ isB t [33] = true) : Nx 3 t := ⟨fun _ => begin_not h, fun k => by omega, fun k => by omega, fun k => by omega⟩
end Go.Proofs.YtfljcfdfgojdoaaGreatDoor.Sh

namespace Go.Proofs.YtfljcfdfgojdoaaGreatDoor.Sh
open Go.RowKit Go.Lib Go.Proofs.YtfljcfdfgojdoaaGreatDoor

/-- a text, a set or a name -/
inductive LeafR : Re → Prop where
  | mk (k : Int) (x : List B) (s : Se) (h : Node k x s 0 0 0) (hk : k = 1 ∨ k = 2 ∨ k = 3) : LeafR (.mk k x s [] 0 0)
/-- what may stand in one map, its parts aside -/
inductive MNode : Int → Re → List B → Nat → Int → Int → Prop where
  | same (r : Re) (h : LeafR r) : MNode 1 r [] 0 0 0
  | out (r : Re) (o : List B) (h : LeafR r) (ho : o.length ≤ 256) : MNode 2 r o 0 0 0
  | cat (n : Nat) (h : 2 ≤ n) : MNode 3 Re.zero [] n 0 0
  | alt (n : Nat) (h : 2 ≤ n) : MNode 4 Re.zero [] n 0 0
  | rep (a b : Int) (h : (a = 0 ∧ b = -1) ∨ (a = 1 ∧ b = -1) ∨ (a = 0 ∧ b = 1)) : MNode 5 Re.zero [] 1 a b
/-- a map that may be, of no more than so many levels -/
def OkMp : Nat → Mp → Prop
  | 0, _ => False
  | n + 1, .mk k r o ps mn mx => MNode k r o ps.length mn mx ∧ ∀ p ∈ ps, OkMp n p
inductive SeMp : Mp → Prop where
  | mk (k : Int) (r : Re) (o : List B) (ps : List Mp) (mn mx : Int) (h : SeRe r) (hp : ∀ p, p ∈ ps → SeMp p) : SeMp (.mk k r o ps mn mx)
theorem SeMp.re {k : Int} {r : Re} {o : List B} {ps : List Mp} {mn mx : Int} (h : SeMp (.mk k r o ps mn mx)) : SeRe r := by cases h; assumption
theorem SeMp.part {k : Int} {r : Re} {o : List B} {ps : List Mp} {mn mx : Int} (h : SeMp (.mk k r o ps mn mx)) {p : Mp} (hp : p ∈ ps) : SeMp p := by cases h with | mk _ _ _ _ _ _ h1 h2 => exact h2 p hp
theorem mpartsW_one (sep : List B) (asked : Nat) (p : Mp) : mpartsW setS sep asked [p] = maskW setS p asked := by
  rw [mpartsW, mtailW, List.append_nil]; rfl
theorem mone_of {l : List Mp} (h : l.length = 1) : ∃ p, l = [p] := List.length_eq_one_iff.1 h
/-- what may stand behind a map that is asked for at a level -/
structure MNx (q : Nat) (t : Tok) : Prop where
  k : isB t [58] = false
  r : q ≤ 2 → isB t [42] = false ∧ isB t [43] = false ∧ isB t [63] = false
  c : q ≤ 1 → beginsB t = false
  o : q = 0 → isB t [124] = false
theorem MNx.mono {q q' : Nat} {t : Tok} (h : MNx q t) (hq : q ≤ q') : MNx q' t :=
  ⟨h.k, fun k => h.r (by omega), fun k => h.c (by omega), fun k => h.o (by omega)⟩
theorem MNx.same {q : Nat} {t t' : Tok} (h : MNx q t) (he : t'.base = t.base) : MNx q t' :=
  ⟨by rw [isB_same he]; exact h.k, fun k => by rw [isB_same he, isB_same he, isB_same he]; exact h.r k, fun k => by rw [begins_same he]; exact h.c k, fun k => by rw [isB_same he]; exact h.o k⟩
theorem MNx.shut : MNx 0 (sb 41) := ⟨rfl, fun _ => ⟨rfl, rfl, rfl⟩, fun _ => rfl, fun _ => rfl⟩
theorem MNx.ends {t : Tok} (h : Ends t) : MNx 0 t :=
  ⟨h.s 58 (by decide), fun _ => ⟨h.s 42 (by decide), h.s 43 (by decide), h.s 63 (by decide)⟩, fun _ => h.b, fun _ => h.s 124 (by decide)⟩
def MFirst (l : List Tok) : Prop := ∃ t m, l = t :: m ∧ beginsB t = true ∧ isB t [58] = false
theorem MFirst.pos {l : List Tok} (h : MFirst l) : 1 ≤ l.length := by
  obtain ⟨t, m, rfl, _⟩ := h; simp
theorem begin_not_colon {t : Tok} (h : beginsB t = true) : isB t [58] = false := by
  obtain ⟨k, x, s, n, p⟩ := t
  unfold beginsB isB at *
  simp only at *
  by_cases hk : k = 4
  · subst hk
    simp only [beq_self_eq_true, Bool.true_and, show ((4 : Int) == 2) = false from rfl, show ((4 : Int) == 3) = false from rfl, show ((4 : Int) == 1) = false from rfl, Bool.false_eq_true, or_self, if_false] at h ⊢
    simp only [Bool.or_eq_true, beq_iff_eq] at h
    rcases h with rfl | rfl <;> rfl
  · have : (k == 4) = false := by simpa using hk
    rw [this]; rfl
theorem mpartsD_mem {asked : Nat} : ∀ {l : List Mp} {p : Mp}, p ∈ l → maskD p asked ≤ mpartsD asked l
  | q :: l, p, h => by
    rw [mpartsD]
    rcases List.mem_cons.1 h with rfl | h
    · exact Nat.le_max_left _ _
    · exact Nat.le_trans (mpartsD_mem h) (Nat.le_max_right _ _)
theorem MNx.first {t : Tok} (h : beginsB t = true) : MNx 2 t :=
  ⟨begin_not_colon h, fun _ => ⟨(begin_not (.inl h)).1, (begin_not (.inl h)).2.1, (begin_not (.inl h)).2.2.1⟩, fun k => by omega, fun k => by omega⟩
end Go.Proofs.YtfljcfdfgojdoaaGreatDoor.Sh

namespace Go.Proofs.YtfljcfdfgojdoaaGreatDoor.Sh
open Go.RowKit Go.Lib Go.Proofs.YtfljcfdfgojdoaaGreatDoor

mutual
/-- fourteen cells read as a map; its parts lie in blocks of which F holds -/
def MpG (F : Nat → Prop) (w : World) : Mp → Mw → Prop
  | .mk k r o ps mn mx, y => y.k = k ∧ y.o = o ∧ y.n = ps.length ∧ y.mn = mn ∧ y.mx = mx ∧ ReG F w r y.r.cs ∧ ps.length ≤ maxLen ∧ (ps ≠ [] → ∃ g off, y.ad = some ⟨g, off, none⟩ ∧ F g ∧ MpsG F w g off ps)
def MpsG (F : Nat → Prop) (w : World) (g : Nat) : Nat → List Mp → Prop
  | _, [] => True
  | off, r :: rs => ∃ y : Mw, (∀ j v, y.cs[j]? = some v → w.cell? ⟨g, off + j, none⟩ = some v) ∧ MpG F w r y ∧ MpsG F w g (off + 14) rs
end
mutual
theorem MpG.frame {F F' : Nat → Prop} {w w' : World} (hF : ∀ g, F g → F' g) (hf : ∀ g, F g → g < w.heap.size → w'.heap[g]? = w.heap[g]?) : ∀ {r : Mp} {y : Mw}, MpG F w r y → MpG F' w' r y
  | .mk k r o ps mn mx, y, h => by
    unfold MpG at h ⊢
    obtain ⟨h1, h2, h3, h4, h5, h6, h7, h8⟩ := h
    refine ⟨h1, h2, h3, h4, h5, h6.frame hF hf, h7, fun hne => ?_⟩
    obtain ⟨g, off, a1, a2, a3⟩ := h8 hne
    exact ⟨g, off, a1, hF g a2, MpsG.frame hF hf a2 a3⟩
theorem MpsG.frame {F F' : Nat → Prop} {w w' : World} (hF : ∀ g, F g → F' g) (hf : ∀ g, F g → g < w.heap.size → w'.heap[g]? = w.heap[g]?) {g : Nat} (hg : F g) : ∀ {l : List Mp} {off : Nat}, MpsG F w g off l → MpsG F' w' g off l
  | [], off, _ => by unfold MpsG; trivial
  | r :: l, off, h => by
    unfold MpsG at h ⊢
    obtain ⟨y, h1, h2, h3⟩ := h
    refine ⟨y, fun j v hv => ?_, MpG.frame hF hf h2, MpsG.frame hF hf hg h3⟩
    have hc := h1 j v hv
    exact (World.cell?_of_block (hf g hg (World.block_lt_of_cell? w _ hc))).trans hc
end
theorem MpG.below {F : Nat → Prop} {w w' : World} {base : Nat} {r : Mp} {y : Mw} (h : MpG F w r y) (hF : ∀ g, F g → g < base) (hb : Below base w w') : MpG F w' r y :=
  h.frame (fun _ h => h) fun g hg _ => hb.block g (hF g hg)
theorem MpG.upd {P : Nat} {w w1 : World} {r : Mp} {y : Mw} (h : MpG (fun g => g < P) w r y) (hu : Upd P w w1) : MpG (fun g => g < P) w1 r y :=
  h.frame (fun _ h => h) fun g hg hl => hu.block g hl (by omega) (.inl hg)
theorem MpsG.at {F : Nat → Prop} {w : World} {g : Nat} : ∀ {l : List Mp} {off i : Nat} {r : Mp}, MpsG F w g off l → l[i]? = some r →
    ∃ y : Mw, MpG F w r y ∧ ∀ j v, y.cs[j]? = some v → w.cell? ⟨g, off + i * 14 + j, none⟩ = some v
  | [], off, i, r, h, hi => by simp at hi
  | r0 :: rs, off, 0, r, h, hi => by
    simp at hi; subst hi
    unfold MpsG at h
    obtain ⟨y, h1, h2, h3⟩ := h
    exact ⟨y, h2, fun j v hv => by rw [Nat.zero_mul, Nat.add_zero]; exact h1 j v hv⟩
  | r0 :: rs, off, i + 1, r, h, hi => by
    unfold MpsG at h
    obtain ⟨y, h1, h2, h3⟩ := h
    obtain ⟨y', h4, h5⟩ := MpsG.at (i := i) (r := r) h3 (by simpa using hi)
    refine ⟨y', h4, fun j v hv => ?_⟩
    have := h5 j v hv
    rw [show off + 14 + i * 14 + j = off + (i + 1) * 14 + j by omega] at this
    exact this
theorem MpG.open {F : Nat → Prop} {w : World} {k : Int} {r : Re} {o : List B} {ps : List Mp} {mn mx : Int} {y : Mw} (h : MpG F w (.mk k r o ps mn mx) y) :
    y.k = k ∧ y.o = o ∧ y.n = ps.length ∧ y.mn = mn ∧ y.mx = mx ∧ ReG F w r y.r.cs ∧ ps.length ≤ maxLen ∧ (ps ≠ [] → ∃ g off, y.ad = some ⟨g, off, none⟩ ∧ F g ∧ MpsG F w g off ps) := by
  unfold MpG at h
  exact h
theorem cs_mw {y z : Mw} (h : y.cs = z.cs) : y = z := by
  obtain ⟨k, ⟨a1, a2, ⟨b1, b2, b3, b4⟩, a4, a5, a6, a7, a8⟩, o, ad, n, cap, mn, mx⟩ := y
  obtain ⟨k', ⟨a1', a2', ⟨b1', b2', b3', b4'⟩, a4', a5', a6', a7', a8'⟩, o', ad', n', cap', mn', mx'⟩ := z
  simp only [Mw.cs, mpC, Array.mk.injEq, List.cons.injEq, Value.int.injEq, Value.string.injEq, Value.slice.injEq, ByteArray.mk.injEq, true_and, and_true] at h
  simp only [Mw.mk.injEq, Rw.mk.injEq, Se.mk.injEq]
  simp_all
mutual
theorem MpG.ofIn {F : Nat → Prop} {w : World} : ∀ {r : Mp} {y : Mw}, MpIn F w r y.cs → MpG F w r y
  | .mk k r o ps mn mx, y, h => by
    unfold MpIn at h
    obtain ⟨rk, rx, rs, rv, rn, rm, ad, cap, xs, h1, h0, h2, h3, h4⟩ := h
    obtain ⟨_, _, _, ra, rl, rc, _, _, he⟩ := h0.cells
    have e6 : rv = .slice ra rl rc := by
      have := congrArg (fun c : Array Value => c[6]?) he
      simpa using this
    subst e6
    obtain rfl : y = ⟨k, ⟨rk, rx, rs, ra, rl, rc, rn, rm⟩, o, ad, ps.length, cap, mn, mx⟩ := cs_mw h1
    unfold MpG
    have h2' := h2
    rcases h2.2 with ⟨hv, hn⟩ | ⟨g, cap', cur, hv, _, hg, hn, hm, hsz, htk⟩
    · exact ⟨rfl, rfl, rfl, rfl, rfl, ReG.ofIn h0, by rw [hn]; exact Nat.zero_le _, fun hne => absurd (List.length_eq_zero_iff.1 hn) hne⟩
    · have h4' := fun hF => MpsG.ofIn (g := g) (off := 0) hF h4 (fun i v hi => by
        have := h2'.cells (g := g) (by rw [hv]; rfl) i v hi
        rw [Addr.add_lit, Nat.zero_add] at this
        rw [Nat.zero_add]
        exact this)
      have hF : F g := h3 g (by rw [hv]; rfl)
      injection hv with e1 e2 e3
      subst e1
      exact ⟨rfl, rfl, rfl, rfl, rfl, ReG.ofIn h0, by omega, fun _ => ⟨g, 0, rfl, hF, h4' hF⟩⟩
theorem MpsG.ofIn {F : Nat → Prop} {w : World} {g : Nat} (hF : F g) : ∀ {l : List Mp} {xs : List Value} {off : Nat}, MpsIn F w l xs → (∀ i v, xs[i]? = some v → w.cell? ⟨g, off + i, none⟩ = some v) → MpsG F w g off l
  | [], xs, off, _, _ => by unfold MpsG; trivial
  | r :: l, xs, off, h, hx => by
    unfold MpsIn at h
    obtain ⟨cs, rest, rfl, h1, h2⟩ := h
    unfold MpsG
    obtain ⟨y, rfl⟩ := h1.mw
    have hc : y.cs.toList.length = 14 := rfl
    refine ⟨y, fun j v hv => hx j v ?_, MpG.ofIn h1, MpsG.ofIn hF h2 fun i v hi => ?_⟩
    · have hv' : y.cs.toList[j]? = some v := by simpa using hv
      rw [List.getElem?_append_left (List.getElem?_eq_some_iff.1 hv').1]
      exact hv'
    · have := hx (14 + i) v (by rw [List.getElem?_append_right (by omega), hc, Nat.add_sub_cancel_left]; exact hi)
      rw [← Nat.add_assoc] at this
      exact this
end
set_option maxRecDepth 100000 in
set_option maxHeartbeats 400000 in
theorem mlevel_any (y : Mw) (w : World) :
    Calls Tryz.prog 114 #[.agg y.cs] w fun e w' => e = .returned (.int .i64 (mlevK y.k)) ∧ Below w.heap.size w w' := by
  have HB := hid (((Below.refl w.heap.size w).alloc (Nat.le_refl _) (.cells y.cs 36)))
  have hb : (w.alloc (.cells y.cs 36)).heap[w.heap.size]? = some (.cells y.cs 36 (0, 0)) := heap_alloc_new _ _
  have c0 : (w.alloc (.cells y.cs 36)).cell? ⟨w.heap.size, 0, none⟩ = some (.int .i64 y.k) := cell_blk (i := 0) hb rfl
  clear hb
  unfold mlevK
  go_enter Tryz.func114, Tryz.ntmps114
  go_wp2
  all_goals go_ret
  all_goals simp_all
  all_goals exact HB.out
/-- the variables that the closures have captured -/
structure MEnv (P Bw Bp Bj : Nat) (w : World) : Prop where
  bw : w.heap[Bw]? = some (.cells #[ptrV P] 70 (0, 0))
  bp : w.heap[Bp]? = some (.cells #[.func (.func 113) #[] #[ptrV Bw, ptrV Bp, ptrV Bj]] 149 (0, 0))
  bj : w.heap[Bj]? = some (.cells #[.func (.func 112) #[] #[ptrV Bw, ptrV Bp]] 150 (0, 0))
  nw : Bw ≠ P
  np : Bp ≠ P
  nj : Bj ≠ P
theorem MEnv.upd {P Bw Bp Bj : Nat} {w w' : World} (h : MEnv P Bw Bp Bj w) (hu : Upd P w w') : MEnv P Bw Bp Bj w' :=
  ⟨hu.row h.bw (by decide) h.nw, hu.row h.bp (by decide) h.np, hu.row h.bj (by decide) h.nj, h.nw, h.np, h.nj⟩
/-- the closure part writes the map r, asked for at a level -/
def MPartOk (P Bw Bp Bj : Nat) (r : Mp) (asked : Nat) : Prop :=
  ∀ (y : Mw) (w : World) (d m : Nat) (l : List B), MpG (fun g => g < P) w r y → MEnv P Bw Bp Bj w → SW P w d m l → d ≤ m → d + maskD r asked ≤ 1000000 → m ≤ 1000000 → l.length + (maskW setS r asked).length ≤ 1099511627776 →
    Calls Tryz.prog 113 #[.agg y.cs, .int .i64 asked, ptrV Bw, ptrV Bp, ptrV Bj] w (WPost P w d (max m (d + maskD r asked)) (l ++ maskW setS r asked))
/-- the fourteen cells of a map in a block, in a world -/
def Four10 (W : World) (g : Nat) (y : Mw) : Prop :=
  W.cell? ⟨g, 0, none⟩ = some (.int .i64 y.k) ∧ W.cell? ⟨g, 1, none⟩ = some (.int .i64 y.r.k) ∧ W.cell? ⟨g, 2, none⟩ = some (.string ⟨y.r.x.toArray⟩) ∧ W.cell? ⟨g, 3, none⟩ = some (.int .u64 y.r.s.a) ∧ W.cell? ⟨g, 4, none⟩ = some (.int .u64 y.r.s.b) ∧ W.cell? ⟨g, 5, none⟩ = some (.int .u64 y.r.s.c) ∧ W.cell? ⟨g, 6, none⟩ = some (.int .u64 y.r.s.d) ∧ W.cell? ⟨g, 7, none⟩ = some (.slice y.r.ad y.r.n y.r.cap) ∧ W.cell? ⟨g, 8, none⟩ = some (.int .i64 y.r.mn) ∧ W.cell? ⟨g, 9, none⟩ = some (.int .i64 y.r.mx) ∧
  W.cell? ⟨g, 10, none⟩ = some (.string ⟨y.o.toArray⟩) ∧ W.cell? ⟨g, 11, none⟩ = some (.slice y.ad y.n y.cap) ∧ W.cell? ⟨g, 12, none⟩ = some (.int .i64 y.mn) ∧ W.cell? ⟨g, 13, none⟩ = some (.int .i64 y.mx)
theorem four10_of {W : World} {g : Nat} {y : Mw} (h : W.heap[g]? = some (.cells y.cs 36 (0, 0))) : Four10 W g y :=
  ⟨cell_blk h rfl, cell_blk h rfl, cell_blk h rfl, cell_blk h rfl, cell_blk h rfl, cell_blk h rfl, cell_blk h rfl, cell_blk h rfl, cell_blk h rfl, cell_blk h rfl, cell_blk h rfl, cell_blk h rfl, cell_blk h rfl, cell_blk h rfl⟩
/-- the same, of an element of a row -/
def Elem14 (W : World) (g o : Nat) (y : Mw) : Prop :=
  W.cell? ⟨g, o, none⟩ = some (.int .i64 y.k) ∧ W.cell? ⟨g, o + 1, none⟩ = some (.int .i64 y.r.k) ∧ W.cell? ⟨g, o + 2, none⟩ = some (.string ⟨y.r.x.toArray⟩) ∧ W.cell? ⟨g, o + 3, none⟩ = some (.int .u64 y.r.s.a) ∧ W.cell? ⟨g, o + 4, none⟩ = some (.int .u64 y.r.s.b) ∧ W.cell? ⟨g, o + 5, none⟩ = some (.int .u64 y.r.s.c) ∧ W.cell? ⟨g, o + 6, none⟩ = some (.int .u64 y.r.s.d) ∧ W.cell? ⟨g, o + 7, none⟩ = some (.slice y.r.ad y.r.n y.r.cap) ∧ W.cell? ⟨g, o + 8, none⟩ = some (.int .i64 y.r.mn) ∧ W.cell? ⟨g, o + 9, none⟩ = some (.int .i64 y.r.mx) ∧
  W.cell? ⟨g, o + 10, none⟩ = some (.string ⟨y.o.toArray⟩) ∧ W.cell? ⟨g, o + 11, none⟩ = some (.slice y.ad y.n y.cap) ∧ W.cell? ⟨g, o + 12, none⟩ = some (.int .i64 y.mn) ∧ W.cell? ⟨g, o + 13, none⟩ = some (.int .i64 y.mx)
theorem elem14_of {W : World} {g o : Nat} {y : Mw} (h : ∀ j v, y.cs[j]? = some v → W.cell? ⟨g, o + j, none⟩ = some v) : Elem14 W g o y :=
  ⟨h 0 _ rfl, h 1 _ rfl, h 2 _ rfl, h 3 _ rfl, h 4 _ rfl, h 5 _ rfl, h 6 _ rfl, h 7 _ rfl, h 8 _ rfl, h 9 _ rfl, h 10 _ rfl, h 11 _ rfl, h 12 _ rfl, h 13 _ rfl⟩
theorem mtailW_app (sep : List B) (asked : Nat) : ∀ (a b : List Mp), mtailW setS sep asked (a ++ b) = mtailW setS sep asked a ++ mtailW setS sep asked b
  | [], b => by rw [mtailW]; rfl
  | p :: a, b => by
    rw [List.cons_append, mtailW, mtailW, mtailW_app sep asked a b]
    simp
theorem mpartsW_snoc (sep : List B) (asked : Nat) (l : List Mp) (p : Mp) : mpartsW setS sep asked (l ++ [p]) = mpartsW setS sep asked l ++ ((if l = [] then [] else sep) ++ maskW setS p asked) := by
  rcases l with _ | ⟨q, l⟩
  · rw [List.nil_append, mpartsW_one, mpartsW]; rfl
  · rw [List.cons_append, mpartsW, mpartsW, mtailW_app, mtailW, mtailW]
    simp [maskW]
theorem mpartsW_le (sep : List B) (asked : Nat) (l : List Mp) (i : Nat) : (mpartsW setS sep asked (l.take i)).length ≤ (mpartsW setS sep asked l).length := by
  rcases l with _ | ⟨q, l⟩
  · simp
  · rcases i with _ | i
    · rw [List.take_zero, mpartsW]; exact Nat.zero_le _
    · rw [List.take_succ_cons, mpartsW, mpartsW]
      conv => rhs; rw [← List.take_append_drop i l, mtailW_app]
      simp only [List.length_append]
      omega
theorem mpartsD_snoc (asked : Nat) : ∀ (l : List Mp) (p : Mp), mpartsD asked (l ++ [p]) = max (mpartsD asked l) (maskD p asked)
  | [], p => by rw [List.nil_append, mpartsD, mpartsD, mpartsD]; show max (maskD p asked) 0 = max 0 (maskD p asked); omega
  | q :: l, p => by rw [List.cons_append, mpartsD, mpartsD, mpartsD_snoc asked l p, Nat.max_assoc]
theorem mpartsD_le (asked : Nat) (l : List Mp) : ∀ i, mpartsD asked (l.take i) ≤ mpartsD asked l := by
  induction l with
  | nil => intro i; simp
  | cons q l ih =>
    intro i
    rcases i with _ | i
    · rw [List.take_zero, mpartsD]; exact Nat.zero_le _
    · rw [List.take_succ_cons, mpartsD, mpartsD]
      have := ih i
      omega
end Go.Proofs.YtfljcfdfgojdoaaGreatDoor.Sh
