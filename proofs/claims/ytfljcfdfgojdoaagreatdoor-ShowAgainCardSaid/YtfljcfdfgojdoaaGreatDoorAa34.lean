/-
  Maps in memory, wherever their parts lie; mapLevel; what the closures that write a map have captured.
  The closures that write a map: join, part.
  The closures that write a map: a leaf, how often, brackets; the contract of mapping.
-/
import Derived.Test.YtfljcfdfgojdoaaGreatDoorAa29
import Derived.Test.YtfljcfdfgojdoaaGreatDoorAa33
import Derived.Test.YtfljcfdfgojdoaaGreatDoorAa14
namespace Go.Proofs.YtfljcfdfgojdoaaGreatDoor.Sh
open Go.RowKit Go.Lib Go.Proofs.YtfljcfdfgojdoaaGreatDoor

mutual
/-- fourteen cells read as a map; its parts lie in blocks of which F holds -/
def MpG (F : Nat → Prop) (w : World) : Mp → Mw → Prop
  | .mk k r o ps mn mx, y => y.k = k ∧ y.o = o ∧ y.n = ps.length ∧ y.mn = mn ∧ y.mx = mx ∧ ReG F w r y.r.cs ∧ ps.length ≤ maxLen ∧ (ps ≠ [] → ∃ g off, y.ad = some ⟨g, off, none⟩ ∧ F g ∧ MpsG F w g off ps)
def MpsG (F : Nat → Prop) (w : World) (g : Nat) : Nat → List Mp → Prop
  | _, [] => True
  | off, r :: rs => ∃ y : Mw, (∀ j v, y.cs[j]? = some v → w.cell? ⟨g, off + j, none⟩ = some v) ∧ MpG F w r y ∧ MpsG F w g (off + 14) rs
end
mutual
theorem MpG.frame {F F' : Nat → Prop} {w w' : World} (hF : ∀ g, F g → F' g) (hf : ∀ g, F g → g < w.heap.size → w'.heap[g]? = w.heap[g]?) : ∀ {r : Mp} {y : Mw}, MpG F w r y → MpG F' w' r y
  | .mk k r o ps mn mx, y, h => by
    unfold MpG at h ⊢
    obtain ⟨h1, h2, h3, h4, h5, h6, h7, h8⟩ := h
    refine ⟨h1, h2, h3, h4, h5, h6.frame hF hf, h7, fun hne => ?_⟩
    obtain ⟨g, off, a1, a2, a3⟩ := h8 hne
    exact ⟨g, off, a1, hF g a2, MpsG.frame hF hf a2 a3⟩
theorem MpsG.frame {F F' : Nat → Prop} {w w' : World} (hF : ∀ g, F g → F' g) (hf : ∀ g, F g → g < w.heap.size → w'.heap[g]? = w.heap[g]?) {g : Nat} (hg : F g) : ∀ {l : List Mp} {off : Nat}, MpsG F w g off l → MpsG F' w' g off l
  | [], off, _ => by unfold MpsG; trivial
  | r :: l, off, h => by
    unfold MpsG at h ⊢
    obtain ⟨y, h1, h2, h3⟩ := h
    refine ⟨y, fun j v hv => ?_, MpG.frame hF hf h2, MpsG.frame hF hf hg h3⟩
    have hc := h1 j v hv
    exact (World.cell?_of_block (hf g hg (World.block_lt_of_cell? w _ hc))).trans hc
end
theorem MpG.below {F : Nat → Prop} {w w' : World} {base : Nat} {r : Mp} {y : Mw} (h : MpG F w r y) (hF : ∀ g, F g → g < base) (hb : Below base w w') : MpG F w' r y :=
  h.frame (fun _ h => h) fun g hg _ => hb.block g (hF g hg)
theorem MpG.upd {P : Nat} {w w1 : World} {r : Mp} {y : Mw} (h : MpG (fun g => g < P) w r y) (hu : Upd P w w1) : MpG (fun g => g < P) w1 r y :=
  h.frame (fun _ h => h) fun g hg hl => hu.block g hl (by omega) (.inl hg)
theorem MpsG.at {F : Nat → Prop} {w : World} {g : Nat} : ∀ {l : List Mp} {off i : Nat} {r : Mp}, MpsG F w g off l → l[i]? = some r →
    ∃ y : Mw, MpG F w r y ∧ ∀ j v, y.cs[j]? = some v → w.cell? ⟨g, off + i * 14 + j, none⟩ = some v
  | [], off, i, r, h, hi => by simp at hi
  | r0 :: rs, off, 0, r, h, hi => by
    simp at hi; subst hi
    unfold MpsG at h
    obtain ⟨y, h1, h2, h3⟩ := h
    exact ⟨y, h2, fun j v hv => by rw [Nat.zero_mul, Nat.add_zero]; exact h1 j v hv⟩
  | r0 :: rs, off, i + 1, r, h, hi => by
    unfold MpsG at h
    obtain ⟨y, h1, h2, h3⟩ := h
    obtain ⟨y', h4, h5⟩ := MpsG.at (i := i) (r := r) h3 (by simpa using hi)
    refine ⟨y', h4, fun j v hv => ?_⟩
    have := h5 j v hv
    rw [show off + 14 + i * 14 + j = off + (i + 1) * 14 + j by omega] at this
    exact this
theorem MpG.open {F : Nat → Prop} {w : World} {k : Int} {r : Re} {o : List B} {ps : List Mp} {mn mx : Int} {y : Mw} (h : MpG F w (.mk k r o ps mn mx) y) :
    y.k = k ∧ y.o = o ∧ y.n = ps.length ∧ y.mn = mn ∧ y.mx = mx ∧ ReG F w r y.r.cs ∧ ps.length ≤ maxLen ∧ (ps ≠ [] → ∃ g off, y.ad = some ⟨g, off, none⟩ ∧ F g ∧ MpsG F w g off ps) := by
  unfold MpG at h
  exact h
theorem cs_mw {y z : Mw} (h : y.cs = z.cs) : y = z := by
  obtain ⟨k, ⟨a1, a2, ⟨b1, b2, b3, b4⟩, a4, a5, a6, a7, a8⟩, o, ad, n, cap, mn, mx⟩ := y
  obtain ⟨k', ⟨a1', a2', ⟨b1', b2', b3', b4'⟩, a4', a5', a6', a7', a8'⟩, o', ad', n', cap', mn', mx'⟩ := z
  simp only [Mw.cs, mpC, Array.mk.injEq, List.cons.injEq, Value.int.injEq, Value.string.injEq, Value.slice.injEq, ByteArray.mk.injEq, true_and, and_true] at h
  simp only [Mw.mk.injEq, Rw.mk.injEq, Se.mk.injEq]
  simp_all
mutual
theorem MpG.ofIn {F : Nat → Prop} {w : World} : ∀ {r : Mp} {y : Mw}, MpIn F w r y.cs → MpG F w r y
  | .mk k r o ps mn mx, y, h => by
    unfold MpIn at h
    obtain ⟨rk, rx, rs, rv, rn, rm, ad, cap, xs, h1, h0, h2, h3, h4⟩ := h
    obtain ⟨_, _, _, ra, rl, rc, _, _, he⟩ := h0.cells
    have e6 : rv = .slice ra rl rc := by
      have := congrArg (fun c : Array Value => c[6]?) he
      simpa using this
    subst e6
    obtain rfl : y = ⟨k, ⟨rk, rx, rs, ra, rl, rc, rn, rm⟩, o, ad, ps.length, cap, mn, mx⟩ := cs_mw h1
    unfold MpG
    have h2' := h2
    rcases h2.2 with ⟨hv, hn⟩ | ⟨g, cap', cur, hv, _, hg, hn, hm, hsz, htk⟩
    · exact ⟨rfl, rfl, rfl, rfl, rfl, ReG.ofIn h0, by rw [hn]; exact Nat.zero_le _, fun hne => absurd (List.length_eq_zero_iff.1 hn) hne⟩
    · have h4' := fun hF => MpsG.ofIn (g := g) (off := 0) hF h4 (fun i v hi => by
        have := h2'.cells (g := g) (by rw [hv]; rfl) i v hi
        rw [Addr.add_lit, Nat.zero_add] at this
        rw [Nat.zero_add]
        exact this)
      have hF : F g := h3 g (by rw [hv]; rfl)
      injection hv with e1 e2 e3
      subst e1
      exact ⟨rfl, rfl, rfl, rfl, rfl, ReG.ofIn h0, by omega, fun _ => ⟨g, 0, rfl, hF, h4' hF⟩⟩
theorem MpsG.ofIn {F : Nat → Prop} {w : World} {g : Nat} (hF : F g) : ∀ {l : List Mp} {xs : List Value} {off : Nat}, MpsIn F w l xs → (∀ i v, xs[i]? = some v → w.cell? ⟨g, off + i, none⟩ = some v) → MpsG F w g off l
  | [], xs, off, _, _ => by unfold MpsG; trivial
  | r :: l, xs, off, h, hx => by
    unfold MpsIn at h
    obtain ⟨cs, rest, rfl, h1, h2⟩ := h
    unfold MpsG
    obtain ⟨y, rfl⟩ := h1.mw
    have hc : y.cs.toList.length = 14 := rfl
    refine ⟨y, fun j v hv => hx j v ?_, MpG.ofIn h1, MpsG.ofIn hF h2 fun i v hi => ?_⟩
    · have hv' : y.cs.toList[j]? = some v := by simpa using hv
      rw [List.getElem?_append_left (List.getElem?_eq_some_iff.1 hv').1]
      exact hv'
    · have := hx (14 + i) v (by rw [List.getElem?_append_right (by omega), hc, Nat.add_sub_cancel_left]; exact hi)
      rw [← Nat.add_assoc] at this
      exact this
end
set_option maxRecDepth 100000 in
set_option maxHeartbeats 400000 in
theorem mlevel_any (y : Mw) (w : World) :
    Calls Tryz.prog 114 #[.agg y.cs] w fun e w' => e = .returned (.int .i64 (mlevK y.k)) ∧ Below w.heap.size w w' := by
  have HB := hid (((Below.refl w.heap.size w).alloc (Nat.le_refl _) (.cells y.cs 36)))
  have hb : (w.alloc (.cells y.cs 36)).heap[w.heap.size]? = some (.cells y.cs 36 (0, 0)) := heap_alloc_new _ _
  have c0 : (w.alloc (.cells y.cs 36)).cell? ⟨w.heap.size, 0, none⟩ = some (.int .i64 y.k) := cell_blk (i := 0) hb rfl
  clear hb
  unfold mlevK
  go_enter Tryz.func114, Tryz.ntmps114
  go_wp2
  all_goals go_ret
  all_goals simp_all
  all_goals exact HB.out
/-- the variables that the closures have captured -/
structure MEnv (P Bw Bp Bj : Nat) (w : World) : Prop where
  bw : w.heap[Bw]? = some (.cells #[ptrV P] 70 (0, 0))
  bp : w.heap[Bp]? = some (.cells #[.func (.func 113) #[] #[ptrV Bw, ptrV Bp, ptrV Bj]] 149 (0, 0))
  bj : w.heap[Bj]? = some (.cells #[.func (.func 112) #[] #[ptrV Bw, ptrV Bp]] 150 (0, 0))
  nw : Bw ≠ P
  np : Bp ≠ P
  nj : Bj ≠ P
theorem MEnv.upd {P Bw Bp Bj : Nat} {w w' : World} (h : MEnv P Bw Bp Bj w) (hu : Upd P w w') : MEnv P Bw Bp Bj w' :=
  ⟨hu.row h.bw (by decide) h.nw, hu.row h.bp (by decide) h.np, hu.row h.bj (by decide) h.nj, h.nw, h.np, h.nj⟩
/-- the closure part writes the map r, asked for at a level -/
def MPartOk (P Bw Bp Bj : Nat) (r : Mp) (asked : Nat) : Prop :=
  ∀ (y : Mw) (w : World) (d m : Nat) (l : List B), MpG (fun g => g < P) w r y → MEnv P Bw Bp Bj w → SW P w d m l → d ≤ m → d + maskD r asked ≤ 1000000 → m ≤ 1000000 → l.length + (maskW setS r asked).length ≤ 1099511627776 →
    Calls Tryz.prog 113 #[.agg y.cs, .int .i64 asked, ptrV Bw, ptrV Bp, ptrV Bj] w (WPost P w d (max m (d + maskD r asked)) (l ++ maskW setS r asked))
/-- the fourteen cells of a map in a block, in a world -/
def Four10 (W : World) (g : Nat) (y : Mw) : Prop :=
  W.cell? ⟨g, 0, none⟩ = some (.int .i64 y.k) ∧ W.cell? ⟨g, 1, none⟩ = some (.int .i64 y.r.k) ∧ W.cell? ⟨g, 2, none⟩ = some (.string ⟨y.r.x.toArray⟩) ∧ W.cell? ⟨g, 3, none⟩ = some (.int .u64 y.r.s.a) ∧ W.cell? ⟨g, 4, none⟩ = some (.int .u64 y.r.s.b) ∧ W.cell? ⟨g, 5, none⟩ = some (.int .u64 y.r.s.c) ∧ W.cell? ⟨g, 6, none⟩ = some (.int .u64 y.r.s.d) ∧ W.cell? ⟨g, 7, none⟩ = some (.slice y.r.ad y.r.n y.r.cap) ∧ W.cell? ⟨g, 8, none⟩ = some (.int .i64 y.r.mn) ∧ W.cell? ⟨g, 9, none⟩ = some (.int .i64 y.r.mx) ∧
  W.cell? ⟨g, 10, none⟩ = some (.string ⟨y.o.toArray⟩) ∧ W.cell? ⟨g, 11, none⟩ = some (.slice y.ad y.n y.cap) ∧ W.cell? ⟨g, 12, none⟩ = some (.int .i64 y.mn) ∧ W.cell? ⟨g, 13, none⟩ = some (.int .i64 y.mx)
theorem four10_of {W : World} {g : Nat} {y : Mw} (h : W.heap[g]? = some (.cells y.cs 36 (0, 0))) : Four10 W g y :=
  ⟨cell_blk h rfl, cell_blk h rfl, cell_blk h rfl, cell_blk h rfl, cell_blk h rfl, cell_blk h rfl, cell_blk h rfl, cell_blk h rfl, cell_blk h rfl, cell_blk h rfl, cell_blk h rfl, cell_blk h rfl, cell_blk h rfl, cell_blk h rfl⟩
/-- the same, of an element of a row -/
def Elem14 (W : World) (g o : Nat) (y : Mw) : Prop :=
  W.cell? ⟨g, o, none⟩ = some (.int .i64 y.k) ∧ W.cell? ⟨g, o + 1, none⟩ = some (.int .i64 y.r.k) ∧ W.cell? ⟨g, o + 2, none⟩ = some (.string ⟨y.r.x.toArray⟩) ∧ W.cell? ⟨g, o + 3, none⟩ = some (.int .u64 y.r.s.a) ∧ W.cell? ⟨g, o + 4, none⟩ = some (.int .u64 y.r.s.b) ∧ W.cell? ⟨g, o + 5, none⟩ = some (.int .u64 y.r.s.c) ∧ W.cell? ⟨g, o + 6, none⟩ = some (.int .u64 y.r.s.d) ∧ W.cell? ⟨g, o + 7, none⟩ = some (.slice y.r.ad y.r.n y.r.cap) ∧ W.cell? ⟨g, o + 8, none⟩ = some (.int .i64 y.r.mn) ∧ W.cell? ⟨g, o + 9, none⟩ = some (.int .i64 y.r.mx) ∧
  W.cell? ⟨g, o + 10, none⟩ = some (.string ⟨y.o.toArray⟩) ∧ W.cell? ⟨g, o + 11, none⟩ = some (.slice y.ad y.n y.cap) ∧ W.cell? ⟨g, o + 12, none⟩ = some (.int .i64 y.mn) ∧ W.cell? ⟨g, o + 13, none⟩ = some (.int .i64 y.mx)
theorem elem14_of {W : World} {g o : Nat} {y : Mw} (h : ∀ j v, y.cs[j]? = some v → W.cell? ⟨g, o + j, none⟩ = some v) : Elem14 W g o y :=
  ⟨h 0 _ rfl, h 1 _ rfl, h 2 _ rfl, h 3 _ rfl, h 4 _ rfl, h 5 _ rfl, h 6 _ rfl, h 7 _ rfl, h 8 _ rfl, h 9 _ rfl, h 10 _ rfl, h 11 _ rfl, h 12 _ rfl, h 13 _ rfl⟩
theorem mtailW_app (sep : List B) (asked : Nat) : ∀ (a b : List Mp), mtailW setS sep asked (a ++ b) = mtailW setS sep asked a ++ mtailW setS sep asked b
  | [], b => by rw [mtailW]; rfl
  | p :: a, b => by
    rw [List.cons_append, mtailW, mtailW, mtailW_app sep asked a b]
    simp
theorem mpartsW_snoc (sep : List B) (asked : Nat) (l : List Mp) (p : Mp) : mpartsW setS sep asked (l ++ [p]) = mpartsW setS sep asked l ++ ((if l = [] then [] else sep) ++ maskW setS p asked) := by
  rcases l with _ | ⟨q, l⟩
  · rw [List.nil_append, mpartsW_one, mpartsW]; rfl
  · rw [List.cons_append, mpartsW, mpartsW, mtailW_app, mtailW, mtailW]
    simp [maskW]
theorem mpartsW_le (sep : List B) (asked : Nat) (l : List Mp) (i : Nat) : (mpartsW setS sep asked (l.take i)).length ≤ (mpartsW setS sep asked l).length := by
  rcases l with _ | ⟨q, l⟩
  · simp
  · rcases i with _ | i
    · rw [List.take_zero, mpartsW]; exact Nat.zero_le _
    · rw [List.take_succ_cons, mpartsW, mpartsW]
      conv => rhs; rw [← List.take_append_drop i l, mtailW_app]
      simp only [List.length_append]
      omega
theorem mpartsD_snoc (asked : Nat) : ∀ (l : List Mp) (p : Mp), mpartsD asked (l ++ [p]) = max (mpartsD asked l) (maskD p asked)
  | [], p => by rw [List.nil_append, mpartsD, mpartsD, mpartsD]; show max (maskD p asked) 0 = max 0 (maskD p asked); omega
  | q :: l, p => by rw [List.cons_append, mpartsD, mpartsD, mpartsD_snoc asked l p, Nat.max_assoc]
theorem mpartsD_le (asked : Nat) (l : List Mp) : ∀ i, mpartsD asked (l.take i) ≤ mpartsD asked l := by
  induction l with
  | nil => intro i; simp
  | cons q l ih =>
    intro i
    rcases i with _ | i
    · rw [List.take_zero, mpartsD]; exact Nat.zero_le _
    · rw [List.take_succ_cons, mpartsD, mpartsD]
      have := ih i
      omega
end Go.Proofs.YtfljcfdfgojdoaaGreatDoor.Sh

namespace Go.Proofs.YtfljcfdfgojdoaaGreatDoor.Sh
open Go.RowKit Go.Lib Go.Proofs.YtfljcfdfgojdoaaGreatDoor

set_option maxRecDepth 100000 in
set_option maxHeartbeats 1000000 in
theorem mjoin_any {P Bw Bp Bj : Nat} (ps : List Mp) (asked : Nat) (sep : ByteArray) (hp : ∀ p ∈ ps, MPartOk P Bw Bp Bj p asked) {ad : Option Addr} {cap : Nat} {w : World} {d m : Nat} {l : List B}
    (hlen : ps.length ≤ maxLen) (hps : ps ≠ [] → ∃ g off, ad = some ⟨g, off, none⟩ ∧ g < P ∧ MpsG (fun g => g < P) w g off ps) (hE : MEnv P Bw Bp Bj w) (hS : SW P w d m l) (hdm : d ≤ m)
    (hD : d + mpartsD asked ps ≤ 1000000) (hm : m ≤ 1000000) (hL : l.length + (mpartsW setS sep.data.toList asked ps).length ≤ 1099511627776) :
    Calls Tryz.prog 112 #[.slice ad ps.length cap, .string sep, .int .i64 asked, ptrV Bw, ptrV Bp] w (WPost P w d (max m (d + mpartsD asked ps)) (l ++ mpartsW setS sep.data.toList asked ps)) := by
  have HP := hid hp
  have HS := hid hps
  have HW := hid hS
  have HE := hid hE
  unfold maxLen at hlen
  clear hp hps hE hS
  go_enter Tryz.func112, Tryz.ntmps112
  go_wp2
  go_loopw [12] (fun v wr => ∃ i : Nat, i ≤ ps.length ∧ v = .int .i64 i ∧ Hid (SW P wr d (max m (d + mpartsD asked (ps.take i))) (l ++ mpartsW setS sep.data.toList asked (ps.take i))) ∧ Upd P w wr) (fun v _ => ps.length - (RowKit.intOf v).toNat)
  case atStart => exact ⟨0, Nat.zero_le _, rfl, by
    rw [List.take_zero, mpartsD, mpartsW, List.append_nil, Nat.add_zero, Nat.max_eq_left hdm]; exact HW, Upd.refl _ _⟩
  case round =>
    obtain ⟨i, hi, rfl, HW, hu⟩ := hrel
    have HU := hid hu
    have HE1 := hid (HE.out.upd hu)
    by_cases hlt : i < ps.length
    · obtain ⟨g, off, rfl, hgP, hparts⟩ := HS.out (by rintro rfl; simp at hlt)
      obtain ⟨y, hr1, hc⟩ := hparts.at (List.getElem?_eq_getElem hlt)
      obtain ⟨a0, a1, a2, a3, a4, a5, a6, a7, a8, a9, a10, a11, a12, a13⟩ := elem14_of (W := wr) (g := g) (o := off + i * 14) (y := y) fun j v hv => hu.cell hgP (hc j v hv)
      have HR := hid (hr1.upd hu)
      have hPw := HW.out.lt
      have hmem : ps[i] ∈ ps := List.getElem_mem hlt
      have HT := hid (take_snoc hlt)
      have HWl := hid (mpartsW_snoc sep.data.toList asked (ps.take i) ps[i])
      have HDl := hid (mpartsD_snoc asked (ps.take i) ps[i])
      have hLi := mpartsW_le sep.data.toList asked ps (i + 1)
      have hDi := mpartsD_le asked ps (i + 1)
      rw [HT.out, HWl.out, List.length_append, List.length_append] at hLi
      rw [HT.out, HDl.out] at hDi
      have hdm2 : max m (d + mpartsD asked (ps.take i)) ≤ 1000000 := by omega
      have hdm3 : d ≤ max m (d + mpartsD asked (ps.take i)) := by omega
      have hdm4 : d + maskD ps[i] asked ≤ 1000000 := by omega
      have hb0 : (wr.alloc (.cells y.cs 36)).heap[wr.heap.size]? = some (.cells y.cs 36 (0, 0)) := heap_alloc_new _ _
      have HPI := hid (HP.out ps[i] hmem)
      have HUA := hid ((Upd.refl P wr).alloc (.cells y.cs 36))
      have HWA := hid (HW.out.alloc (.cells y.cs 36))
      have HBX := hid hb0
      obtain ⟨b0, b1, b2, b3, b4, b5, b6, b7, b8, b9, b10, b11, b12, b13⟩ := four10_of hb0
      have HEA := hid (HE1.out.upd HUA.out)
      have hw0 := cell_blk (i := 0) HEA.out.bw rfl
      have hp0 := cell_blk (i := 0) HEA.out.bp rfl
      have hlx : (l ++ mpartsW setS sep.data.toList asked (ps.take i)).length = l.length + (mpartsW setS sep.data.toList asked (ps.take i)).length := List.length_append
      have hgi : (i : Int) < (ps.length : Int) := by omega
      have HLI := hid hLi
      clear hb0 hparts hc hr1 hmem hLi hDi
      go_upto_region 3 with fail
      generalize (wr.alloc (.cells y.cs 36)) = WA at *
      have hszA : wr.heap.size < WA.heap.size := lt_of_heap HBX.out
      have hss : sep.data.toList.length = sep.size := rfl
      clear a0 a1 a2 a3 a4 a5 a6 a7 a8 a9 a10 a11 a12 a13
      rcases Nat.eq_zero_or_pos i with hi0 | hpos
      · have hnp : ¬ ((0 : Int) < (i : Int)) := by omega
        have hem : ps.take i = [] := by rw [hi0, List.take_zero]
        have HWl2 := hid (HWl.out.trans (by rw [if_pos hem]))
        have hLb : (mpartsW setS sep.data.toList asked (ps.take i)).length + (maskW setS ps[i] asked).length ≤ (mpartsW setS sep.data.toList asked ps).length := by
          have := HLI.out
          rw [if_pos hem] at this
          simpa using this
        have hcall := HPI.out _ WA d _ _ ((HR.out.upd HUA.out)) HEA.out HWA.out hdm3 hdm4 hdm2 (by omega)
        clear hLb hL
        go_wp2_with (go_at_call 113; refine hcall.mono ?_; clear hcall; rintro e w3 ⟨rfl, hw3, hu3⟩)
        go_roundw
        case rel => exact ⟨i + 1, by omega, by go_num, hid (by
          rw [HT.out, HWl2.out, HDl.out, List.nil_append, ← List.append_assoc]
          rw [show max m (d + max (mpartsD asked (ps.take i)) (maskD ps[i] asked)) = max (max m (d + mpartsD asked (ps.take i))) (d + maskD ps[i] asked) by omega]
          exact hw3), HU.out.trans (HUA.out.trans hu3)⟩
        case measure => simp [RowKit.intOf]; omega
      · have hpos' : (0 : Int) < (i : Int) := by omega
        have hne : ps.take i ≠ [] := by intro e; have := congrArg List.length e; rw [List.length_take, List.length_nil] at this; omega
        have HWl2 := hid (HWl.out.trans (by rw [if_neg hne]))
        have hLb := HLI.out
        rw [if_neg hne, hss] at hLb
        have hput := put_any sep HWA.out (by omega)
        have hL2 : (l ++ mpartsW setS sep.data.toList asked (ps.take i) ++ sep.data.toList).length + (maskW setS ps[i] asked).length ≤ 1099511627776 := by rw [List.length_append, hlx, hss]; omega
        clear hLb hL b0 b1 b2 b3 b4 b5 b6 b7 b8 b9 b10 b11 b12 b13
        go_upto_region 5 with (go_at_call 86; refine hput.mono ?_; clear hput hw0 hp0; rintro e w2 ⟨rfl, hw2, hu2⟩; have hb2 := hu2.row HBX.out (by decide) (by omega); obtain ⟨b0, b1, b2, b3, b4, b5, b6, b7, b8, b9, b10, b11, b12, b13⟩ := four10_of hb2; have HE2 := hid (HEA.out.upd hu2); have hp0 := cell_blk (i := 0) HE2.out.bp rfl; have hcall := HPI.out _ w2 d _ _ ((HR.out.upd HUA.out).upd hu2) HE2.out hw2 hdm3 hdm4 hdm2 hL2; have HU2 := hid hu2; clear hb2 hu2 hw2)
        go_wp2_with (go_at_call 113; refine hcall.mono ?_; clear hcall; rintro e w3 ⟨rfl, hw3, hu3⟩)
        go_roundw
        case rel => exact ⟨i + 1, by omega, by go_num, hid (by
          rw [HT.out, HWl2.out, HDl.out, ← List.append_assoc, ← List.append_assoc]
          rw [show max m (d + max (mpartsD asked (ps.take i)) (maskD ps[i] asked)) = max (max m (d + mpartsD asked (ps.take i))) (d + maskD ps[i] asked) by omega]
          exact hw3), HU.out.trans (HUA.out.trans (HU2.out.trans hu3))⟩
        case measure => simp [RowKit.intOf]; omega
    · obtain rfl : i = ps.length := by omega
      go_wp2
      go_end0
      have hw := HW.out
      rw [List.take_length] at hw
      exact ⟨rfl, hw, HU.out⟩
theorem maskW_own {r : Mp} {asked : Nat} (h : ¬ mlev r < asked) : maskW setS r asked = mpW setS r ∧ maskD r asked = mpD r := by
  unfold maskW maskD
  rw [if_neg h, if_neg h]
  exact ⟨rfl, rfl⟩

set_option maxRecDepth 100000 in
set_option maxHeartbeats 1000000 in
theorem mpart_row {P Bw Bp Bj : Nat} {k : Int} (hk : k = 3 ∨ k = 4) (ps : List Mp) (hp : ∀ p ∈ ps, MPartOk P Bw Bp Bj p (mneedK k)) {asked : Nat} (ha : ¬ mlevK k < asked) : MPartOk P Bw Bp Bj (.mk k Re.zero [] ps 0 0) asked := by
  intro y w d m l hr hE hW hdm hD hm hL
  obtain ⟨y1, y2, y3, y4, y5, y6, hlen, hps⟩ := hr.open
  have hlv : ¬ mlev (.mk k Re.zero [] ps 0 0) < asked := ha
  obtain ⟨e1, e2⟩ := maskW_own hlv
  obtain ⟨sep, hsep⟩ : ∃ sep, sep = (if k = 4 then [32, 124, 32] else [32] : List B) := ⟨_, rfl⟩
  have e3 : mpW setS (.mk k Re.zero [] ps 0 0) = mpartsW setS sep (mneedK k) ps := by
    rw [mpW, hsep]
    rcases hk with rfl | rfl <;> rfl
  have e4 : mpD (.mk k Re.zero [] ps 0 0) = mpartsD (mneedK k) ps := by rw [mpD]
  rw [e1, e3] at hL
  rw [e2, e4] at hD
  rw [e1, e2, e3, e4]
  have ha' : ¬ ((mlevK k : Int) < (asked : Int)) := by omega
  have hlev := mlevel_any y
  rw [y1] at hlev
  have HW := hid hW
  have HE := hid hE
  have hPw := hW.lt
  have HU0 := hid ((Upd.refl P w).alloc (.cells y.cs 36))
  have HW0 := hid (hW.alloc (.cells y.cs 36))
  have hb0 : (w.alloc (.cells y.cs 36)).heap[w.heap.size]? = some (.cells y.cs 36 (0, 0)) := heap_alloc_new _ _
  have HFACT := hid (show ∀ W : World, Upd P (w.alloc (.cells y.cs 36)) W → Four10 W w.heap.size y ∧ W.cell? ⟨Bj, 0, none⟩ = some (.func (.func 112) #[] #[ptrV Bw, ptrV Bp]) ∧ W.cell? ⟨w.heap.size, 0, none⟩ = some (.int .i64 k) ∧ W.cell? ⟨w.heap.size, 11, none⟩ = some (.slice y.ad ps.length y.cap) from fun W hu =>
    ⟨four10_of (hu.row hb0 (by decide) (by omega)), cell_blk (HE.out.upd (HU0.out.trans hu)).bj rfl, by rw [← y1]; exact (four10_of (hu.row hb0 (by decide) (by omega))).1, by rw [← y3]; exact (four10_of (hu.row hb0 (by decide) (by omega))).2.2.2.2.2.2.2.2.2.2.2.1⟩)
  have HPS := hid (show ∀ W : World, Upd P w W → ps ≠ [] → ∃ g off, y.ad = some ⟨g, off, none⟩ ∧ g < P ∧ MpsG (fun g => g < P) W g off ps from fun W hu hne => by
    obtain ⟨g, off, h1, h2, h3⟩ := hps hne
    exact ⟨g, off, h1, h2, h3.frame (fun _ h => h) (fun g hg hl => hu.block g hl (by omega) (.inl hg)) h2⟩)
  have HJ := hid (show ∀ (W : World) (sp : ByteArray) (n : Nat), sp.data.toList = sep → n = mneedK k → Upd P w W → SW P W d m l → Calls Tryz.prog 112 #[.slice y.ad ps.length y.cap, .string sp, .int .i64 n, ptrV Bw, ptrV Bp] W (WPost P W d (max m (d + mpartsD (mneedK k) ps)) (l ++ mpartsW setS sep (mneedK k) ps)) from fun W sp n h1 h2 hu hw => by
    rw [← h1] at hL ⊢
    subst h2
    exact mjoin_any ps (mneedK k) sp hp hlen (HPS.out W hu) (HE.out.upd hu) hw hdm hD hm hL)
  obtain ⟨⟨z0, c1, c2, c3, c4, c5, c6, c7, c8, c9, c10, z11, c12, c13⟩, zj, c0, c11⟩ := HFACT.out _ (Upd.refl _ _)
  clear z0 z11 zj
  unfold maxLen at hlen
  have hky : y.k = k := y1
  have hny : y.n = ps.length := y3
  have HY := hid (And.intro y2 (And.intro y4 y5))
  have h0 := (four10_of hb0).1
  have h11 := (four10_of hb0).2.2.2.2.2.2.2.2.2.2.2.1
  clear hr hE hW hlv e1 e2 e3 e4 hD hL hb0 hp hps ha HPS y1 y2 y3 y4 y5 y6 c0 c11
  rcases hk with rfl | rfl
  · have HJ4 := hid (fun W => HJ.out W ⟨#[32]⟩ 2 (by rw [hsep]; rfl) rfl)
    clear HJ
    have HK := hid hky
    have HNY := hid hny
    clear hky hny hsep
    go_enter Tryz.func113, Tryz.ntmps113
    go_upto_region 1 with fail
    generalize w.alloc (.cells y.cs 36) = W0 at *
    go_wp2_with (first | (go_at_call 114; refine (hlev _).mono ?_; clear hlev; rintro e W1 ⟨rfl, hb1⟩; have HU1 := hid (Upd.below (Upd.refl P W0) hb1); have HW1 := hid (HW0.out.below hb1); clear hb1 h0 h11 c1 c2 c3 c4 c5 c6 c7 c8 c9 c10 c12 c13; obtain ⟨⟨z0, c1, c2, c3, c4, c5, c6, c7, c8, c9, c10, z11, c12, c13⟩, cj, c0, c11⟩ := HFACT.out _ HU1.out; clear z0 z11) | (go_at_call 112; refine (HJ4.out W1 (HU0.out.trans HU1.out) HW1.out).mono ?_; rintro e W2 ⟨rfl, hw2, hu2⟩))
    go_end0
    exact ⟨rfl, hw2, HU0.out.trans (HU1.out.trans hu2)⟩
  · have HJ4 := hid (fun W => HJ.out W ⟨#[32, 124, 32]⟩ 1 (by rw [hsep]; rfl) rfl)
    clear HJ
    have HK := hid hky
    have HNY := hid hny
    clear hky hny hsep
    go_enter Tryz.func113, Tryz.ntmps113
    go_upto_region 1 with fail
    generalize w.alloc (.cells y.cs 36) = W0 at *
    go_wp2_with (first | (go_at_call 114; refine (hlev _).mono ?_; clear hlev; rintro e W1 ⟨rfl, hb1⟩; have HU1 := hid (Upd.below (Upd.refl P W0) hb1); have HW1 := hid (HW0.out.below hb1); clear hb1 h0 h11 c1 c2 c3 c4 c5 c6 c7 c8 c9 c10 c12 c13; obtain ⟨⟨z0, c1, c2, c3, c4, c5, c6, c7, c8, c9, c10, z11, c12, c13⟩, cj, c0, c11⟩ := HFACT.out _ HU1.out; clear z0 z11) | (go_at_call 112; refine (HJ4.out W1 (HU0.out.trans HU1.out) HW1.out).mono ?_; rintro e W2 ⟨rfl, hw2, hu2⟩))
    go_end0
    exact ⟨rfl, hw2, HU0.out.trans (HU1.out.trans hu2)⟩
end Go.Proofs.YtfljcfdfgojdoaaGreatDoor.Sh

namespace Go.Proofs.YtfljcfdfgojdoaaGreatDoor.Sh
open Go.RowKit Go.Lib Go.Proofs.YtfljcfdfgojdoaaGreatDoor

set_option maxRecDepth 100000 in
set_option maxHeartbeats 1000000 in
theorem mpart_rep {P Bw Bp Bj : Nat} (p : Mp) {lo hi : Int} (ho : oftOk lo hi) (hp : MPartOk P Bw Bp Bj p 3) {asked : Nat} (ha : ¬ 2 < asked) : MPartOk P Bw Bp Bj (.mk 5 Re.zero [] [p] lo hi) asked := by
  intro y w d m l hr hE hW hdm hD hm hL
  obtain ⟨y1, y2, y3, y4, y5, y6, hlen, hps⟩ := hr.open
  have hlv : ¬ mlev (.mk 5 Re.zero [] [p] lo hi) < asked := ha
  obtain ⟨e1, e2⟩ := maskW_own hlv
  have e3 : mpW setS (.mk 5 Re.zero [] [p] lo hi) = maskW setS p 3 ++ oftenW lo hi := by
    rw [mpW, if_pos rfl, mpartsW_one]
  have e4 : mpD (.mk 5 Re.zero [] [p] lo hi) = maskD p 3 := by
    rw [mpD, mpartsD, mpartsD]
    show max (maskD p 3) 0 = _
    omega
  rw [e1, e3] at hL
  rw [e2, e4] at hD
  rw [e1, e2, e3, e4]
  have ha' : ¬ ((2 : Int) < (asked : Int)) := by omega
  have hlev := mlevel_any y
  rw [y1, show ((mlevK 5 : Nat) : Int) = 2 from rfl] at hlev
  have HW := hid hW
  have HE := hid hE
  have hPw := hW.lt
  have HU0 := hid ((Upd.refl P w).alloc (.cells y.cs 36))
  have HW0 := hid (hW.alloc (.cells y.cs 36))
  have hb0 : (w.alloc (.cells y.cs 36)).heap[w.heap.size]? = some (.cells y.cs 36 (0, 0)) := heap_alloc_new _ _
  obtain ⟨g, off, hadd, hgP, hpg⟩ := hps (by simp)
  have HFACT := hid (show ∀ W : World, Upd P (w.alloc (.cells y.cs 36)) W → Four10 W w.heap.size y ∧ (W.cell? ⟨Bw, 0, none⟩ = some (ptrV P) ∧ W.cell? ⟨Bp, 0, none⟩ = some (.func (.func 113) #[] #[ptrV Bw, ptrV Bp, ptrV Bj])) ∧ W.cell? ⟨w.heap.size, 0, none⟩ = some (.int .i64 5) ∧ W.cell? ⟨w.heap.size, 11, none⟩ = some (.slice (some ⟨g, off, none⟩) 1 y.cap) ∧ W.cell? ⟨w.heap.size, 12, none⟩ = some (.int .i64 lo) ∧ W.cell? ⟨w.heap.size, 13, none⟩ = some (.int .i64 hi) from fun W hu => by
    have hf := four10_of (hu.row hb0 (by decide) (by omega))
    have hf2 := hf
    obtain ⟨d0, _, _, _, _, _, _, _, _, _, _, d11, d12, d13⟩ := hf2
    rw [y1] at d0
    rw [hadd, y3] at d11
    rw [y4] at d12
    rw [y5] at d13
    exact ⟨hf, ⟨cell_blk (HE.out.upd (HU0.out.trans hu)).bw rfl, cell_blk (HE.out.upd (HU0.out.trans hu)).bp rfl⟩, d0, d11, d12, d13⟩)
  obtain ⟨z, hr1, hc⟩ := hpg.at (i := 0) (r := p) rfl
  have HC := hid (show ∀ W : World, Upd P w W → Elem14 W g off z from fun W hu => elem14_of fun j v hv => hu.cell hgP (by simpa using hc j v hv))
  have hol := oftenW_len lo hi
  have HCALL := hid (show ∀ (W : World), Upd P w W → SW P W d m l → Calls Tryz.prog 113 #[.agg z.cs, .int .i64 3, ptrV Bw, ptrV Bp, ptrV Bj] W (WPost P W d (max m (d + maskD p 3)) (l ++ maskW setS p 3)) from fun W hu hw =>
    hp _ W d _ _ (hr1.upd hu) (HE.out.upd hu) hw hdm hD hm (by rw [List.length_append] at hL; omega))
  obtain ⟨⟨z0, c1, c2, c3, c4, c5, c6, c7, c8, c9, c10, z11, z12, z13⟩, ⟨cw, cp⟩, c0, c11, c12, c13⟩ := HFACT.out _ (Upd.refl _ _)
  have h0 := (four10_of hb0).1
  have h11 := (four10_of hb0).2.2.2.2.2.2.2.2.2.2.2.1
  have h12 := (four10_of hb0).2.2.2.2.2.2.2.2.2.2.2.2.1
  have h13 := (four10_of hb0).2.2.2.2.2.2.2.2.2.2.2.2.2
  clear z0 z11 z12 z13 hr hE hW hlv e1 e2 e3 e4 hb0 hp hps ha hlen hpg hr1 hc c0 c11 c12 c13 y1 y2 y3 y4 y5 y6 hadd
  go_enter Tryz.func113, Tryz.ntmps113
  go_upto_region 1 with fail
  generalize w.alloc (.cells y.cs 36) = W0 at *
  go_upto_region 12 with (go_at_call 114; refine (hlev _).mono ?_; clear hlev; rintro e W1 ⟨rfl, hb1⟩; have HU1 := hid (Upd.below (Upd.refl P W0) hb1); have HW1 := hid (HW0.out.below hb1); clear hb1 h0 h11 h12 h13 c1 c2 c3 c4 c5 c6 c7 c8 c9 c10 cw cp; obtain ⟨⟨z0, c1, c2, c3, c4, c5, c6, c7, c8, c9, c10, z11, z12, z13⟩, ⟨cw, cp⟩, c0, c11, c12, c13⟩ := HFACT.out _ HU1.out; clear z0 z11 z12 z13; obtain ⟨g0, g1, g2, g3, g4, g5, g6, g7, g8, g9, g10, g11, g12, g13⟩ := HC.out _ (HU0.out.trans HU1.out))
  go_still_tail 5, (by kernel_rfl)
  change wpList _ _ _ _ _ W1.drew
  have HU1D := hid HU1.out.drew
  have HW1D := hid (show SW P W1.drew d m l from by obtain ⟨v, h1, h2⟩ := HW1.out; exact ⟨v, h1, h2⟩)
  clear c0 c1 c2 c3 c4 c5 c6 c7 c8 c9 c10 c11 c12 c13 cw cp g0 g1 g2 g3 g4 g5 g6 g7 g8 g9 g10 g11 g12 g13
  generalize W1.drew = W4 at *
  go_upto_region 13 with (go_at_call 113; refine (HCALL.out W4 (HU0.out.trans HU1D.out) HW1D.out).mono ?_; rintro e W5 ⟨rfl, hw5, hu5⟩; have HU5 := hid (HU1D.out.trans hu5); have HW5 := hid hw5; clear hu5 hw5; obtain ⟨_, ⟨cw, cp⟩, c0, c11, c12, c13⟩ := HFACT.out _ HU5.out)
  have HFQ := hid (show ∀ W : World, Upd P W0 W → W.cell? ⟨Bw, 0, none⟩ = some (ptrV P) ∧ W.cell? ⟨w.heap.size, 12, none⟩ = some (.int .i64 lo) ∧ W.cell? ⟨w.heap.size, 13, none⟩ = some (.int .i64 hi) from fun W h => by
    obtain ⟨_, ⟨cw, _⟩, _, _, c12, c13⟩ := HFACT.out W h
    exact ⟨cw, c12, c13⟩)
  have HUD := hid HU5.out.drew
  have HWD := hid (show SW P W5.drew d (max m (d + maskD p 3)) (l ++ maskW setS p 3) from by obtain ⟨v, h1, h2⟩ := HW5.out; exact ⟨v, h1, h2⟩)
  have HPUT := hid (show ∀ W : World, SW P W d (max m (d + maskD p 3)) (l ++ maskW setS p 3) → _ from fun W h => put_any ⟨(oftenW lo hi).toArray⟩ h (by rw [str_size]; rw [List.length_append] at hL ⊢; omega))
  have hoft := often_any lo hi ho
  go_region_held3 (fun W => W.cell? ⟨Bw, 0, none⟩ = some (ptrV P) ∧ W.cell? ⟨w.heap.size, 12, none⟩ = some (.int .i64 lo) ∧ W.cell? ⟨w.heap.size, 13, none⟩ = some (.int .i64 hi)) (first | exact HFQ.out _ HU6.out | exact HFQ.out _ HUD.out | exact HFQ.out _ HU5.out)
    ((first | (go_at_call 102; refine (hoft _).mono ?_; rintro e W7 ⟨rfl, rfl⟩) | (go_at_call 86; refine (HPUT.out _ HWD.out).mono ?_; rintro e W6 ⟨rfl, hw6, hu6⟩; have HU6 := hid (HUD.out.trans hu6); have HW6 := hid hw6; clear hu6 hw6)))
  all_goals
    go_wp2
    go_end0
    exact ⟨rfl, by rw [← List.append_assoc]; exact HW6.out, HU0.out.trans HU6.out⟩
end Go.Proofs.YtfljcfdfgojdoaaGreatDoor.Sh
