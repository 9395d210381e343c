/-
  Edges in memory; the contract of dfa.unlike.
-/
import Derived.Test.YtfjomnhdmkbkiaaDoorDfE
import Derived.Test.YtfjomnhdmkbkiaaDoorDfH
import Derived.Test.YtfjomnhdmkbkiaaDoorDfF
import Derived.DeepKeys4
namespace Go.Proofs.YtfjomnhdmkbkiaaDoor.Im
open Go.RowKit Go.Lib Go.Maps

abbrev Edge.ls (e : Edge) : List Value := [.int .i64 e.fr, .int .i64 e.dst, .int .u64 e.st.a, .int .u64 e.st.b, .int .u64 e.st.c, .int .u64 e.st.d]
abbrev Edge.cs (e : Edge) : Array Value := #[.int .i64 e.fr, .int .i64 e.dst, .int .u64 e.st.a, .int .u64 e.st.b, .int .u64 e.st.c, .int .u64 e.st.d]
abbrev EdgesIn (F : Nat → Prop) (w : World) : Value → List Edge → Prop := WideIn F w 6 Edge.ls
theorem EdgesIn.frame {F F' : Nat → Prop} {w w' : World} {v : Value} {l : List Edge} (h : EdgesIn F w v l) (hF : ∀ g, F g → F' g) (hw : ∀ g, F g → g < w.heap.size → w'.heap[g]? = w.heap[g]?) : EdgesIn F' w' v l := WideIn.frame h hF hw
theorem EdgesIn.at' {F : Nat → Prop} {w : World} {ad : Option Addr} {n cap : Nat} {es : List Edge} (h : EdgesIn F w (.slice ad n cap) es) {i : Nat} (hi : i < es.length) :
    ∃ g off, ad = some ⟨g, off, none⟩ ∧ F g ∧ w.cell? ⟨g, off + i * 6, none⟩ = some (.int .i64 es[i].fr) ∧ w.cell? ⟨g, off + i * 6 + 1, none⟩ = some (.int .i64 es[i].dst) ∧ w.cell? ⟨g, off + i * 6 + 2, none⟩ = some (.int .u64 es[i].st.a) ∧ w.cell? ⟨g, off + i * 6 + 3, none⟩ = some (.int .u64 es[i].st.b) ∧ w.cell? ⟨g, off + i * 6 + 4, none⟩ = some (.int .u64 es[i].st.c) ∧ w.cell? ⟨g, off + i * 6 + 5, none⟩ = some (.int .u64 es[i].st.d) := by
  obtain ⟨ad', cap', h1, h2, h3⟩ := h
  cases h1
  obtain ⟨g, off, rfl, hg, h4⟩ := h3 (by intro e; subst e; simp at hi)
  obtain ⟨c0, e0, f0⟩ := h4 i hi 0 (by decide)
  obtain ⟨c1, e1, f1⟩ := h4 i hi 1 (by decide)
  obtain ⟨c2, e2, f2⟩ := h4 i hi 2 (by decide)
  obtain ⟨c3, e3, f3⟩ := h4 i hi 3 (by decide)
  obtain ⟨c4, e4, f4⟩ := h4 i hi 4 (by decide)
  obtain ⟨c5, e5, f5⟩ := h4 i hi 5 (by decide)
  cases f0; cases f1; cases f2; cases f3; cases f4; cases f5
  exact ⟨g, off, rfl, hg, e0, e1, e2, e3, e4, e5⟩

/-! sets as keys -/
theorem laidOut : laidOutB Tryd.prog = true := by kernel_rfl
theorem rowSet : (65 : TypeId) < Tryd.prog.types.size := of_decide_eq_true (by kernel_rfl)
theorem typesPos : decide (0 < Tryd.prog.types.size) = true := by kernel_rfl
theorem pos_succ {n : Nat} (h : decide (0 < n) = true) : ∃ m, n = m + 1 := ⟨n - 1, by have := of_decide_eq_true h; omega⟩
theorem typesSize : ∃ m, Tryd.prog.types.size = m + 1 := pos_succ typesPos
theorem wideSet : (match Tryd.prog.underlying 65 with | some (.array _ _) | some (.struct _) => true | _ => false) = true := by rw [Tryd.underlying65]
theorem hm2 : 2 + 1 ≤ 10000 := of_decide_eq_true rfl
theorem deepSet : Tryd.prog.keyTypeAt 2 65 = true := by kernel_rfl
set_option maxRecDepth 100000 in
theorem setKey : Keyed Tryd.prog 65 := Keyed.of_law (deep_law_laid laidOut (m := 2) hm2 rowSet deepSet wideSet)
theorem cellsSet : Tryd.prog.cellsOf 65 = 4 := by kernel_rfl
theorem cellsU64 : Tryd.prog.cellsOf 63 = 1 := by kernel_rfl
theorem keySet : Tryd.prog.keyType 65 = true := by kernel_rfl
theorem wf_u64 {x : Int} (h : wOk x) : (Lit.int .u64 x).wf = true := by
  have h1 := h.1
  have h2 := h.2
  show (decide ((0 : Int) ≤ x) && decide (x ≤ 18446744073709551615)) = true
  rw [decide_eq_true h1, decide_eq_true (by omega)]; rfl
theorem lit_u64 (m : Nat) {x : Int} (h : wOk x) : Tryd.prog.keyLits (m + 1) 63 [.int .u64 x] = some [.int .u64 x] := by
  unfold Program.keyLits
  rw [Tryd.underlying63]
  simp [wf_u64 h]
theorem keyOf_set {s : Se} (h : s.ok) : ∃ l, keyOf Tryd.prog 65 s.v = some l := by
  obtain ⟨m, hm⟩ := typesSize
  unfold keyOf
  rw [Tryd.underlying65]
  simp only [keySet, Value.formed, Tryd.underlying65, cellsSet, hm]
  have : Tryd.prog.keyLits (m + 1 + 1) 65 [.int .u64 s.a, .int .u64 s.b, .int .u64 s.c, .int .u64 s.d] = some [.int .u64 s.a, .int .u64 s.b, .int .u64 s.c, .int .u64 s.d] := by
    unfold Program.keyLits
    rw [Tryd.underlying65]
    simp [cellsSet, cellsU64, List.range, List.range.loop, lit_u64 _ h.a, lit_u64 _ h.b, lit_u64 _ h.c, lit_u64 _ h.d]
  exact ⟨_, by simp [Value.cells, this]; rfl⟩
theorem seV_inj (x y : Se) (h : x.v = y.v) : x = y := by
  obtain ⟨a, b, c, d⟩ := x
  obtain ⟨a', b', c', d'⟩ := y
  simp at h
  simp [h]
abbrev SetKeys (w : World) (b : Nat) (ks : List Se) : Prop := PlacesAt Tryd.prog 65 3 Se.v w b ks
theorem unlike_yes {acc : List Se} {e : Edge} {l : List Edge} (h : e.st ∈ acc) : unlikeM acc (e :: l) = unlikeM acc l := by rw [unlikeM, if_pos h]
theorem unlike_no {acc : List Se} {e : Edge} {l : List Edge} (h : e.st ∉ acc) : unlikeM acc (e :: l) = unlikeM (acc ++ [e.st]) l := by rw [unlikeM, if_neg h]
theorem blk_edge {w : World} {P : Nat} {e : Edge} {T : TypeId} (h : w.heap[P]? = some (.cells e.cs T (0, 0))) : w.cell? ⟨P, 2, none⟩ = some (.int .u64 e.st.a) ∧ w.cell? ⟨P, 3, none⟩ = some (.int .u64 e.st.b) ∧ w.cell? ⟨P, 4, none⟩ = some (.int .u64 e.st.c) ∧ w.cell? ⟨P, 5, none⟩ = some (.int .u64 e.st.d) := ⟨cell_blk h rfl, cell_blk h rfl, cell_blk h rfl, cell_blk h rfl⟩
theorem blk_edge01 {w : World} {P : Nat} {e : Edge} {T : TypeId} (h : w.heap[P]? = some (.cells e.cs T (0, 0))) : w.cell? ⟨P, 0, none⟩ = some (.int .i64 e.fr) ∧ w.cell? ⟨P, 1, none⟩ = some (.int .i64 e.dst) := ⟨cell_blk h rfl, cell_blk h rfl⟩
theorem lt_alloc (w : World) (o : Obj) : w.heap.size < (w.alloc o).heap.size := by rw [World.size_alloc]; omega
def UnlikePost (w : World) (ss : List Se) (e : Ending) (w' : World) : Prop :=
  Below w.heap.size w w' ∧ ∃ ad cap, e = .returned (.slice ad ss.length cap) ∧ w'.ownsRow w.heap.size 65 4 (.slice ad ss.length cap) ss.length (flat ss)

set_option maxRecDepth 100000 in
set_option maxHeartbeats 4000000 in
theorem unlike_any {F : Nat → Prop} {w : World} {v : Value} {es : List Edge} (hl : EdgesIn F w v es) (hF : ∀ g, F g → g < w.heap.size) (hs : es.length ≤ 65536) (hok : ∀ e ∈ es, e.st.ok) :
    Calls Tryd.prog 39 #[v] w (UnlikePost w (unlikeM [] es)) := by
  have HL := hid hl
  obtain ⟨ad, cp, rfl, _, _⟩ := hl
  obtain ⟨i0, hi, hz0, hz1, hz2⟩ := info_parts infoSet
  have HI := hid hi
  have HZ := hid (And.intro hz0 (And.intro hz1 hz2))
  have HOK := hid hok
  clear hi hz0 hz1 hz2 hok
  have hmm := @run_makeMap Tryd.prog
  have hs' : (es.length : Int) ≤ 65536 := by omega
  go_enter Tryd.func39, Tryd.ntmps39
  go_wp2
  go_loopw [4, 12] (fun p i wr => ∃ (k : Nat) (ss : List Se), k ≤ es.length ∧ ss.length ≤ k ∧ i = .int .i64 k ∧ wr.ownsRow (w.heap.size + 1) 65 4 p ss.length (flat ss) ∧ SetKeys wr w.heap.size ss ∧ Hid (unlikeM ss (es.drop k) = unlikeM [] es) ∧ Below w.heap.size w wr) (fun _ i _ => es.length - (intOf i).toNat)
  case atStart => exact ⟨0, [], Nat.zero_le _, Nat.le_refl _, rfl, World.ownsRow_nil _ _ _ _, PlacesAt.made _ _ _ _ _, hid rfl, (Below.refl _ _).alloc (Nat.le_refl _) _⟩
  case round =>
    obtain ⟨k, ss, hk, hsk, rfl, hown, hkeys, hun, hbel⟩ := hrel
    obtain ⟨adp, cpp, rfl⟩ := own_shape hown
    have HO := hid hown
    have HK := hid hkeys
    clear hown hkeys
    by_cases hlt : k < es.length
    · obtain ⟨g, off, rfl, hFg, c0, c1, c2, c3, c4, c5⟩ := (EdgesIn.frame HL.out (w' := wr) (F' := F) (fun _ h => h) (fun q hq _ => hbel.block q (hF q hq))).at' hlt
      have hun1 := hun.out
      rw [drop_cons' es k hlt] at hun1
      have heok := HOK.out es[k] (List.getElem_mem hlt)
      obtain ⟨e, he1⟩ : ∃ e, e = es[k] := ⟨_, rfl⟩
      rw [← he1] at c0 c1 c2 c3 c4 c5 hun1 heok
      obtain ⟨kl, hkl⟩ := keyOf_set heok
      have HKL := hid hkl
      have HKA := hid (HK.out.block (w' := wr.alloc (.cells e.cs 67)) (alloc_old HK.out.lt))
      have HOA := hid (HO.out.alloc (.cells e.cs 67))
      clear hun hkl he1 heok
      by_cases hm : e.st ∈ ss
      · have HUN := hid ((unlike_yes hm).symm.trans hun1)
        have HM := hid hm
        clear hm hun1
        go_wp2_with (at_lookup; refine wpList_place_yes _ rfl _ _ 104 rfl 65 3 setKey Tryd.underlying104 Tryd.underlying3 (mapPlaces _) Se.v w.heap.size ss rfl HKA.out e.st kl rfl HKL.out HM.out ?_)
        go_roundw
        case rel => exact ⟨k + 1, ss, by omega, by omega, by go_num, HOA.out, HKA.out, HUN, hbel.alloc hbel.size _⟩
        case measure => simp [intOf]; omega
      · have HUN := hid ((unlike_no hm).symm.trans hun1)
        have HM := hid hm
        have HNE := hid (show wr.heap.size ≠ w.heap.size by have := HK.out.lt; omega)
        have HBA := hid (hbel.alloc hbel.size (.cells e.cs 67))
        clear hm hun1
        go_wp2_with (first | (at_lookup; refine wpList_place_no _ rfl _ _ 104 rfl 65 3 setKey Tryd.underlying104 Tryd.underlying3 (mapPlaces _) Se.v w.heap.size ss rfl HKA.out e.st kl rfl HKL.out HM.out ?_) | (at_mapUpdate; refine wpList_place_put _ rfl _ _ _ 104 rfl 65 3 setKey Tryd.underlying104 Tryd.underlying3 Se.v seV_inj w.heap.size ss rfl HKA.out (by unfold maxLen; omega) e.st kl rfl rfl HKL.out HM.out ?_; intro w2 hk2 ht2; have HK2 := hid hk2; have HO2 := hid (own_turned HOA.out ht2); have HB2 := hid (below_turned HBA.out ht2 (Nat.le_refl _) HBA.out.size); have hblk := (turned_blk ht2 HNE.out (lt_alloc wr _)).trans (heap_alloc_new wr (.cells e.cs 67)); obtain ⟨d2, d3, d4, d5⟩ := blk_edge hblk; clear hk2 ht2 hblk) | (at_builtin; refine wpList_append_own _ rfl _ _ 56 rfl (w.heap.size + 1) 65 i0 _ 4 32 Tryd.underlying56 HI.out HZ.out.1 HZ.out.2.1 HZ.out.2.2 rfl (by decide) _ _ _ rfl (HO2.out.alloc _) ⟨w2.heap.size, 0, none⟩ 1 1 e.st.cs.toList rfl rfl ?c1 ?c2 ?c3 ?c4 ?c5 ?_))
        case c2 => simp [Value.oneCell']
        case c3 => unfold maxLen; omega
        case c4 => omega
        case c5 => have := HK2.out.lt; simp; omega
        intro p' w3 hown3 hgrow3 _
        have hz2 := HB2.out.size
        have hlt2 := HK2.out.lt
        have HK3 := hid (HK2.out.block ((hgrow3.block _ (by simp; omega) (fun e => by have := (HO2.out.lt _ e.symm).1; omega)).trans (alloc_old hlt2)))
        have HB3 := hid ((HB2.out.alloc hz2 _).grown hgrow3 (by simp; omega) (fun q hq => by have := (HO2.out.lt q hq).1; omega))
        clear hgrow3
        go_wp2
        go_roundw
        case rel => exact ⟨k + 1, ss ++ [e.st], by omega, by simp; omega, by go_num, by rw [List.length_append, flat_snoc]; exact hown3, HK3.out, HUN, HB3.out⟩
        case measure => simp [intOf]; omega
    · obtain rfl : k = es.length := by omega
      have hun1 := hun.out
      rw [List.drop_length] at hun1
      have HE := hid (show unlikeM [] es = ss from hun1.symm)
      clear hun hun1
      go_wp2
      go_ret
      rw [HE.out]
      exact ⟨hbel, adp, cpp, rfl, own_mono HO.out (Nat.le_succ _)⟩
end Go.Proofs.YtfjomnhdmkbkiaaDoor.Im
