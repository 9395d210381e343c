/-
  whittleref10.Same: two automatons of many ways that read the same are alike.
-/
import Derived.Test.YtfjomnhdmkbkiaaDoorDgR
namespace Go.Proofs.YtfjomnhdmkbkiaaDoor.Im
open Go.RowKit Go.Lib Go.Maps Go.Shelf

theorem eqSet9 (a b c d : Int) (w : World) : (Op.equalIn 9999 65 (.agg #[.int .u64 a, .int .u64 b, .int .u64 c, .int .u64 d]) (.agg #[.int .u64 a, .int .u64 b, .int .u64 c, .int .u64 d])).run Tryd.prog w = .ok true w := by
  have u3 := Tryd.underlying63
  have a3 := Tryd.isAgg63
  have z3 := Tryd.sizeOf63
  rw [show (9999 : Nat) = 9998 + 1 from rfl, Op.equalIn]
  simp only [Sem.run_bind, run_underlying Tryd.underlying65, Result.andThen_ok]
  simp only [Std.Legacy.Range.forIn_eq_forIn_range', Std.Legacy.Range.size, Nat.sub_zero, Nat.add_sub_cancel, Nat.div_one, List.range'_succ, List.range'_zero, List.forIn_cons, List.forIn_nil]
  go_simp
theorem eqEdge (f t a b c d : Int) (w : World) : (Op.equalIn 10000 67 (.agg #[.int .i64 f, .int .i64 t, .int .u64 a, .int .u64 b, .int .u64 c, .int .u64 d]) (.agg #[.int .i64 f, .int .i64 t, .int .u64 a, .int .u64 b, .int .u64 c, .int .u64 d])).run Tryd.prog w = .ok true w := by
  have u3 := Tryd.underlying63
  have a3 := Tryd.isAgg63
  have z3 := Tryd.sizeOf63
  have ui := Tryd.underlying3
  have ai := Tryd.isAgg3
  have zi := Tryd.sizeOf3
  have us := Tryd.underlying65
  have a65 := Tryd.isAgg65
  have zs := Tryd.sizeOf65
  rw [show (10000 : Nat) = 9998 + 1 + 1 from rfl, Op.equalIn]
  simp only [Sem.run_bind, run_underlying Tryd.underlying67, Result.andThen_ok]
  have e9 := eqSet9 a b c d w
  go_simp
set_option maxRecDepth 100000 in
set_option maxHeartbeats 8000000 in
theorem nsame_yes {F G : Nat → Prop} {w : World} {s a b c s' a' b' c' : Value} {n : Nfa} (hn : NfaIn F w s a b c n) (hn' : NfaIn G w s' a' b' c' n) (hF : ∀ g, F g → g < w.heap.size) (hG : ∀ g, G g → g < w.heap.size) :
    Calls Tryd.prog 26 #[.agg #[s, a, b, c], .agg #[s', a', b', c']] w fun e w' => e = .returned (.bool true) ∧ Below w.heap.size w w' := by
  obtain ⟨W0, hW0⟩ : ∃ W0, W0 = (w.alloc (.cells #[s, a, b, c] 25)).alloc (.cells #[s', a', b', c'] 25) := ⟨_, rfl⟩
  have hA0 : W0.heap[w.heap.size]? = some (.cells #[s, a, b, c] 25 (0, 0)) := by rw [hW0]; exact (alloc_old (by simp)).trans (heap_alloc_new _ _)
  have hR0 : W0.heap[w.heap.size + 1]? = some (.cells #[s', a', b', c'] 25 (0, 0)) := by rw [hW0]; exact newB _ _ _
  have hB0 : Below w.heap.size w W0 := by rw [hW0]; exact ((Below.refl _ _).alloc (Nat.le_refl _) _).alloc (by simp) _
  have hz0 : W0.heap.size = w.heap.size + 2 := by rw [hW0]; simp
  have HB := hid (fun (W : World) (h : Below (w.heap.size + 2) W0 W) => hB0.trans (h.mono (by omega)))
  have HN := hid (fun (W : World) (h : Below (w.heap.size + 2) W0 W) => (show NfaIn F W s a b c n from hn.frame (fun _ h => h) (fun g hg _ => (HB.out W h).block g (hF g hg))))
  have HN' := hid (fun (W : World) (h : Below (w.heap.size + 2) W0 W) => (show NfaIn G W s' a' b' c' n from hn'.frame (fun _ h => h) (fun g hg _ => (HB.out W h).block g (hG g hg))))
  have HF := hid (fun (W : World) (h : Below (w.heap.size + 2) W0 W) (g : Nat) (hg : F g) => (show g < W.heap.size from Nat.lt_of_lt_of_le (hF g hg) (HB.out W h).size))
  have HG := hid (fun (W : World) (h : Below (w.heap.size + 2) W0 W) (g : Nat) (hg : G g) => (show g < W.heap.size from Nat.lt_of_lt_of_le (hG g hg) (HB.out W h).size))
  have HX := hid (fun (W : World) (h : Below (w.heap.size + 2) W0 W) => ncells ((h.block w.heap.size (by omega)).trans hA0))
  have HY := hid (fun (W : World) (h : Below (w.heap.size + 2) W0 W) => ncells ((h.block (w.heap.size + 1) (by omega)).trans hR0))
  have HTH := hid (fun (W W' : World) (h : Below (w.heap.size + 2) W0 W) (h' : Below W.heap.size W W') => h.trans (h'.mono (by have := h.size; omega)))
  have hsv := hn.states
  have hsv' := hn'.states
  subst hsv hsv'
  obtain ⟨ada, cpa, rfl, hma, _⟩ := hn.starts
  obtain ⟨adb, cpb, rfl, hmb, _⟩ := hn.ends
  obtain ⟨adc, cpc, rfl, hmc, _⟩ := hn.edges
  obtain ⟨ada', cpa', rfl, hma', _⟩ := hn'.starts
  obtain ⟨adb', cpb', rfl, hmb', _⟩ := hn'.ends
  obtain ⟨adc', cpc', rfl, hmc', _⟩ := hn'.edges
  unfold maxLen at hma hmb hmc hma' hmb' hmc'
  have HW0 := hid hW0
  clear hn hn' hF hG hA0 hR0 hB0 hW0 hz0
  obtain ⟨q0, q1, q2, q3⟩ := HX.out W0 (Below.refl _ _)
  obtain ⟨r0, r1, r2, r3⟩ := HY.out W0 (Below.refl _ _)
  go_enter Tryd.func26, Tryd.ntmps26
  go_upto_region 1 with fail
  rw [← HW0.out]
  go_wp2_with fail
  refine (ints_yes (HN.out W0 (Below.refl _ _)).starts (HN'.out W0 (Below.refl _ _)).starts (HF.out W0 (Below.refl _ _)) (HG.out W0 (Below.refl _ _))).mono ?_
  rintro e w1 ⟨rfl, hb1⟩
  have H1 := hid (HTH.out _ _ (Below.refl _ _) hb1)
  clear q0 q1 q2 q3 r0 r1 r2 r3 hb1
  obtain ⟨q0, q1, q2, q3⟩ := HX.out w1 H1.out
  obtain ⟨r0, r1, r2, r3⟩ := HY.out w1 H1.out
  go_wp2_with fail
  refine (ints_yes (HN.out w1 H1.out).ends (HN'.out w1 H1.out).ends (HF.out w1 H1.out) (HG.out w1 H1.out)).mono ?_
  rintro e w2 ⟨rfl, hb2⟩
  have H2 := hid (HTH.out _ _ H1.out hb2)
  clear q0 q1 q2 q3 r0 r1 r2 r3 hb2
  obtain ⟨q0, q1, q2, q3⟩ := HX.out w2 H2.out
  obtain ⟨r0, r1, r2, r3⟩ := HY.out w2 H2.out
  go_wp2_with fail
  go_loopw [5] (fun i wr => ∃ k : Nat, k ≤ n.edges.length ∧ i = .int .i64 k ∧ Below (w.heap.size + 2) W0 wr) (fun i _ => n.edges.length - (intOf i).toNat)
  case atStart => exact ⟨0, Nat.zero_le _, rfl, H2.out⟩
  case round =>
    clear q0 q1 q2 q3 r0 r1 r2 r3
    obtain ⟨k, hk, rfl, hb⟩ := hrel
    have HBK := hid hb
    clear hb
    obtain ⟨q0, q1, q2, q3⟩ := HX.out wr HBK.out
    obtain ⟨r0, r1, r2, r3⟩ := HY.out wr HBK.out
    by_cases hlt : k < n.edges.length
    · obtain ⟨g, off, rfl, hg, x0, x1, x2, x3, x4, x5⟩ := (HN.out wr HBK.out).edges.at' hlt
      obtain ⟨g', off', rfl, hg', y0, y1, y2, y3, y4, y5⟩ := (HN'.out wr HBK.out).edges.at' hlt
      generalize n.edges[k] = e at *
      have he := fun w => eqEdge e.fr e.dst e.st.a e.st.b e.st.c e.st.d w
      go_wp2_with fail
      go_region
      all_goals go_wp2_with fail
      all_goals go_roundw
      all_goals first
        | (case rel => exact ⟨k + 1, by omega, by go_num, HBK.out.drew⟩)
        | (case measure => simp [intOf]; omega)
    · obtain rfl : k = n.edges.length := by omega
      go_wp2_with fail
      go_ret
      exact ⟨rfl, HB.out _ HBK.out⟩
end Go.Proofs.YtfjomnhdmkbkiaaDoor.Im
