/-
  The reference's writing of an expression. (Printed by genRe8.py.)
-/
import Derived.Test.YtfljcfdfgojdoaaGreatDoorFa33
import Derived.Test.YtfljcfdfgojdoaaGreatDoorFa16
import Derived.Test.YtfljcfdfgojdoaaGreatDoorFa24
namespace Go.Proofs.YtfljcfdfgojdoaaGreatDoor.Sh.Rf
open Go.RowKit Go.Lib Go.Proofs.YtfljcfdfgojdoaaGreatDoor Go.Proofs.YtfljcfdfgojdoaaGreatDoor.Sh

/-- the reference writes an expression, asked for at a level -/
def ReAt (r : Re) (asked : Nat) : Prop := ∀ (F : Nat → Prop) (cs : Array Value) (w : World), (∀ g, F g → g < w.heap.size) → ReG F w r cs → Calls Tryz.prog 92 #[.agg cs, .int .i64 asked] w (StrPost (askW setS r asked) w)
set_option maxRecDepth 100000 in
set_option maxHeartbeats 4000000 in
theorem re_text {x : List B} {s : Se} {asked : Nat} (hx : x.length ≤ 1000) (ha : asked ≤ 5) : ReAt (.mk 1 x s ([] : List Re) 0 0) asked := by
  intro F cs w hFw h
  obtain ⟨ad, cap, rfl, hlen, ho⟩ := h.open
  have hask : askW setS (.mk 1 x s ([] : List Re) 0 0) asked = reW setS (.mk 1 x s ([] : List Re) 0 0) := (askW_own (show ¬ lev (.mk 1 x s ([] : List Re) 0 0) < asked from Nat.not_lt.2 ha)).1
  have HFW := hid hFw
  have HO := hid ho
  unfold maxLen at hlen
  have HB0 := hid ((Below.refl w.heap.size w).alloc (Nat.le_refl _) (.cells (reC 1 x s (.slice ad ([] : List Re).length cap) 0 0) 33))
  have hblk : (w.alloc (.cells (reC 1 x s (.slice ad ([] : List Re).length cap) 0 0) 33)).heap[w.heap.size]? = some (.cells (reC 1 x s (.slice ad ([] : List Re).length cap) 0 0) 33 (0, 0)) := heap_alloc_new _ _
  have hsz0 : (w.alloc (.cells (reC 1 x s (.slice ad ([] : List Re).length cap) 0 0) 33)).heap.size = w.heap.size + 1 := by simp
  have HBK := hid hblk
  obtain ⟨c0, c1, c2, c3, c4, c5, c6, c7, c8⟩ := nine_of hblk
  have hlv := levelR_any 1 x s (.slice ad ([] : List Re).length cap) 0 0 (w.alloc (.cells (reC 1 x s (.slice ad ([] : List Re).length cap) 0 0) 33))
  clear h hFw ho hblk
  rw [show reW setS (.mk 1 x s [] 0 0) = textW x from by rw [reW]; rfl] at hask
  have HASK := hid hask
  have hk : ((levK 1 : Nat) : Int) = 5 := rfl
  rw [hk] at hlv
  obtain ⟨ask, hak⟩ : ∃ ask : Int, ask = (asked : Int) := ⟨_, rfl⟩
  have hlt0 : ¬ ((5 : Int) < ask) := by omega
  rw [← hak]
  clear hask hk hak ha
  have hn0 : ([] : List Re).length = 0 := rfl
  rw [hn0] at *
  go_enter Tryz.func92, Tryz.ntmps92
  go_upto_region 1 with fail
  generalize w.alloc (.cells (reC 1 x s (.slice ad 0 cap) 0 0) 33) = W0 at *
  go_upto_region 3 with (go_at_call 90; refine hlv.mono ?_; clear hlv; rintro e W1 ⟨rfl, hb1⟩; have HB1 := hid (HB0.out.trans (hb1.mono (by omega))); have HBK1 := hid ((hb1.block w.heap.size (by omega)).trans HBK.out); have HS1 := hid hb1.size; clear hb1 c0 c1 c2 c3 c4 c5 c6 c7 c8)
  have hsz1 : w.heap.size + 1 ≤ W1.heap.size := by have := HS1.out; omega
  obtain ⟨c0, c1, c2, c3, c4, c5, c6, c7, c8⟩ := nine_of HBK1.out
  go_wp2
  refine wp_loop_rounds 1 ?_
  rw [rounds_succ]
  have htx := textE_any ⟨x.toArray⟩ (by rw [str_size]; omega)
  have hsx : (⟨x.toArray⟩ : ByteArray).data.toList = x := rfl
  rw [hsx] at htx
  go_wp2_with (go_at_call 94; refine (htx _).mono ?_; clear htx; rintro e W3 ⟨rfl, hb3⟩)
  go_ret
  rw [HASK.out]
  exact ⟨rfl, HB1.out.trans (hb3.mono HB1.out.size)⟩
set_option maxRecDepth 100000 in
set_option maxHeartbeats 4000000 in
theorem re_set {x : List B} {s : Se} {asked : Nat} (hs : SeOk s) (ha : asked ≤ 5) : ReAt (.mk 2 x s ([] : List Re) 0 0) asked := by
  intro F cs w hFw h
  obtain ⟨ad, cap, rfl, hlen, ho⟩ := h.open
  have hask : askW setS (.mk 2 x s ([] : List Re) 0 0) asked = reW setS (.mk 2 x s ([] : List Re) 0 0) := (askW_own (show ¬ lev (.mk 2 x s ([] : List Re) 0 0) < asked from Nat.not_lt.2 ha)).1
  have HFW := hid hFw
  have HO := hid ho
  unfold maxLen at hlen
  have HB0 := hid ((Below.refl w.heap.size w).alloc (Nat.le_refl _) (.cells (reC 2 x s (.slice ad ([] : List Re).length cap) 0 0) 33))
  have hblk : (w.alloc (.cells (reC 2 x s (.slice ad ([] : List Re).length cap) 0 0) 33)).heap[w.heap.size]? = some (.cells (reC 2 x s (.slice ad ([] : List Re).length cap) 0 0) 33 (0, 0)) := heap_alloc_new _ _
  have hsz0 : (w.alloc (.cells (reC 2 x s (.slice ad ([] : List Re).length cap) 0 0) 33)).heap.size = w.heap.size + 1 := by simp
  have HBK := hid hblk
  obtain ⟨c0, c1, c2, c3, c4, c5, c6, c7, c8⟩ := nine_of hblk
  have hlv := levelR_any 2 x s (.slice ad ([] : List Re).length cap) 0 0 (w.alloc (.cells (reC 2 x s (.slice ad ([] : List Re).length cap) 0 0) 33))
  clear h hFw ho hblk
  rw [show reW setS (.mk 2 x s [] 0 0) = setS s from by rw [reW]; rfl] at hask
  have HASK := hid hask
  have hk : ((levK 2 : Nat) : Int) = 5 := rfl
  rw [hk] at hlv
  obtain ⟨ask, hak⟩ : ∃ ask : Int, ask = (asked : Int) := ⟨_, rfl⟩
  have hlt0 : ¬ ((5 : Int) < ask) := by omega
  rw [← hak]
  clear hask hk hak ha
  have hn0 : ([] : List Re).length = 0 := rfl
  rw [hn0] at *
  go_enter Tryz.func92, Tryz.ntmps92
  go_upto_region 1 with fail
  generalize w.alloc (.cells (reC 2 x s (.slice ad 0 cap) 0 0) 33) = W0 at *
  go_upto_region 3 with (go_at_call 90; refine hlv.mono ?_; clear hlv; rintro e W1 ⟨rfl, hb1⟩; have HB1 := hid (HB0.out.trans (hb1.mono (by omega))); have HBK1 := hid ((hb1.block w.heap.size (by omega)).trans HBK.out); have HS1 := hid hb1.size; clear hb1 c0 c1 c2 c3 c4 c5 c6 c7 c8)
  have hsz1 : w.heap.size + 1 ≤ W1.heap.size := by have := HS1.out; omega
  obtain ⟨c0, c1, c2, c3, c4, c5, c6, c7, c8⟩ := nine_of HBK1.out
  go_wp2
  refine wp_loop_rounds 1 ?_
  rw [rounds_succ]
  have HSE := hid hs
  have e24 := eq24
  have HK := hid (show ∀ W : World, Below W1.heap.size W1 W → W.cell? ⟨w.heap.size, 2, none⟩ = some (.int .u64 s.a) ∧ W.cell? ⟨w.heap.size, 3, none⟩ = some (.int .u64 s.b) ∧ W.cell? ⟨w.heap.size, 4, none⟩ = some (.int .u64 s.c) ∧ W.cell? ⟨w.heap.size, 5, none⟩ = some (.int .u64 s.d) from fun W hW => by
    obtain ⟨_, _, c2, c3, c4, c5, _, _, _⟩ := nine_of ((hW.block _ (lt_of_heap HBK1.out)).trans HBK1.out)
    exact ⟨c2, c3, c4, c5⟩)
  have hq0 := hid (Below.refl W1.heap.size W1)
  have hqd := hid ((Below.refl W1.heap.size W1).drew)
  have hnn := spanR_all
  go_upto_region 29 with fail
  clear c0 c1 c6 c7 c8 hs
  go_region_held3 (fun W => W.cell? ⟨w.heap.size, 2, none⟩ = some (.int .u64 s.a) ∧ W.cell? ⟨w.heap.size, 3, none⟩ = some (.int .u64 s.b) ∧ W.cell? ⟨w.heap.size, 4, none⟩ = some (.int .u64 s.c) ∧ W.cell? ⟨w.heap.size, 5, none⟩ = some (.int .u64 s.d)) (first | exact HK.out _ hq2.out | exact HK.out _ hqd.out | exact HK.out _ hq0.out) ((go_at_call 138; refine (hnn _).mono ?_; rintro e W2 ⟨rfl, hb2⟩; have hq2 := hid (hqd.out.trans (hb2.mono (by show _ ≤ W1.heap.size; omega))); clear hb2))
  rw [show (s.a == notNone.a && s.b == notNone.b && s.c == notNone.c && s.d == notNone.d) = isAll s from rfl]
  have hst := setE_any s HSE.out
  obtain ⟨d2, d3, d4, d5⟩ := HK.out _ hq2.out
  clear c2 c3 c4 c5 e24
  have HB2 := hid (HB1.out.trans (hq2.out.mono HB1.out.size))
  by_cases hA : isAll s = true
  · have HE2 := hid (show setS s = [46] by unfold setS; rw [if_pos hA])
    rw [hA]
    go_wp2
    go_ret
    rw [HASK.out, HE2.out]
    exact ⟨rfl, HB2.out⟩
  · have HE2 := hid (show setS s = setP (hasS s) by unfold setS; rw [if_neg hA])
    rw [Bool.not_eq_true] at hA
    rw [hA]
    go_wp2_with (go_at_call 139; refine (hst _).mono ?_; rintro e W3 ⟨rfl, hb3⟩)
    go_ret
    rw [HASK.out, HE2.out]
    exact ⟨rfl, HB2.out.trans (hb3.mono HB2.out.size)⟩
set_option maxRecDepth 100000 in
set_option maxHeartbeats 4000000 in
theorem re_name {x : List B} {s : Se} {asked : Nat} (ha : asked ≤ 5) : ReAt (.mk 3 x s ([] : List Re) 0 0) asked := by
  intro F cs w hFw h
  obtain ⟨ad, cap, rfl, hlen, ho⟩ := h.open
  have hask : askW setS (.mk 3 x s ([] : List Re) 0 0) asked = reW setS (.mk 3 x s ([] : List Re) 0 0) := (askW_own (show ¬ lev (.mk 3 x s ([] : List Re) 0 0) < asked from Nat.not_lt.2 ha)).1
  have HFW := hid hFw
  have HO := hid ho
  unfold maxLen at hlen
  have HB0 := hid ((Below.refl w.heap.size w).alloc (Nat.le_refl _) (.cells (reC 3 x s (.slice ad ([] : List Re).length cap) 0 0) 33))
  have hblk : (w.alloc (.cells (reC 3 x s (.slice ad ([] : List Re).length cap) 0 0) 33)).heap[w.heap.size]? = some (.cells (reC 3 x s (.slice ad ([] : List Re).length cap) 0 0) 33 (0, 0)) := heap_alloc_new _ _
  have hsz0 : (w.alloc (.cells (reC 3 x s (.slice ad ([] : List Re).length cap) 0 0) 33)).heap.size = w.heap.size + 1 := by simp
  have HBK := hid hblk
  obtain ⟨c0, c1, c2, c3, c4, c5, c6, c7, c8⟩ := nine_of hblk
  have hlv := levelR_any 3 x s (.slice ad ([] : List Re).length cap) 0 0 (w.alloc (.cells (reC 3 x s (.slice ad ([] : List Re).length cap) 0 0) 33))
  clear h hFw ho hblk
  rw [show reW setS (.mk 3 x s [] 0 0) = x from by rw [reW]; rfl] at hask
  have HASK := hid hask
  have hk : ((levK 3 : Nat) : Int) = 5 := rfl
  rw [hk] at hlv
  obtain ⟨ask, hak⟩ : ∃ ask : Int, ask = (asked : Int) := ⟨_, rfl⟩
  have hlt0 : ¬ ((5 : Int) < ask) := by omega
  rw [← hak]
  clear hask hk hak ha
  have hn0 : ([] : List Re).length = 0 := rfl
  rw [hn0] at *
  go_enter Tryz.func92, Tryz.ntmps92
  go_upto_region 1 with fail
  generalize w.alloc (.cells (reC 3 x s (.slice ad 0 cap) 0 0) 33) = W0 at *
  go_upto_region 3 with (go_at_call 90; refine hlv.mono ?_; clear hlv; rintro e W1 ⟨rfl, hb1⟩; have HB1 := hid (HB0.out.trans (hb1.mono (by omega))); have HBK1 := hid ((hb1.block w.heap.size (by omega)).trans HBK.out); have HS1 := hid hb1.size; clear hb1 c0 c1 c2 c3 c4 c5 c6 c7 c8)
  have hsz1 : w.heap.size + 1 ≤ W1.heap.size := by have := HS1.out; omega
  obtain ⟨c0, c1, c2, c3, c4, c5, c6, c7, c8⟩ := nine_of HBK1.out
  go_wp2
  refine wp_loop_rounds 1 ?_
  rw [rounds_succ]
  go_wp2
  go_ret
  rw [HASK.out]
  exact ⟨rfl, HB1.out⟩
set_option maxRecDepth 100000 in
set_option maxHeartbeats 1000000 in
theorem re_bracket {r : Re} {asked : Nat} (h0 : ReAt r 0) (hlt : lev r < asked) (_ha : asked ≤ 5) (hL : (reW setS r).length ≤ 1099511627776) : ReAt r asked := by
  obtain ⟨k, x, s, ps, mn, mx⟩ := r
  intro F cs w hFw h
  have hG := h
  obtain ⟨ad, cap, rfl, hlen, ho⟩ := h.open
  have hask : askW setS (.mk k x s ps mn mx) asked = 40 :: (reW setS (.mk k x s ps mn mx) ++ [41]) := by unfold askW; rw [if_pos hlt]
  have h00 : askW setS (.mk k x s ps mn mx) 0 = reW setS (.mk k x s ps mn mx) := (askW_own (by omega)).1
  have HASK := hid hask
  have HB0 := hid ((Below.refl w.heap.size w).alloc (Nat.le_refl _) (.cells (reC k x s (.slice ad ps.length cap) mn mx) 33))
  have hblk : (w.alloc (.cells (reC k x s (.slice ad ps.length cap) mn mx) 33)).heap[w.heap.size]? = some (.cells (reC k x s (.slice ad ps.length cap) mn mx) 33 (0, 0)) := heap_alloc_new _ _
  have hsz0 : (w.alloc (.cells (reC k x s (.slice ad ps.length cap) mn mx) 33)).heap.size = w.heap.size + 1 := by simp
  have HBK := hid hblk
  obtain ⟨c0, c1, c2, c3, c4, c5, c6, c7, c8⟩ := nine_of hblk
  have hlv := levelR_any k x s (.slice ad ps.length cap) mn mx (w.alloc (.cells (reC k x s (.slice ad ps.length cap) mn mx) 33))
  have HCALL := hid (fun (W : World) (hW : Below w.heap.size w W) => h0 F _ W (fun g hg => by have := hFw g hg; have := hW.size; omega) (hG.below hFw hW))
  rw [h00] at HCALL
  obtain ⟨lv, hl⟩ : ∃ lv : Int, lv = ((levK k : Nat) : Int) := ⟨_, rfl⟩
  obtain ⟨ask, hak⟩ : ∃ ask : Int, ask = (asked : Int) := ⟨_, rfl⟩
  have hlt' : lv < ask := by have : levK k < asked := hlt; omega
  rw [← hl] at hlv
  rw [← hak]
  generalize hX : reW setS (.mk k x s ps mn mx) = X at *
  have hadd1 := add_cons [40] X (40 :: X) rfl (by simp only [List.length_cons, List.length_nil]; omega)
  have hadd2 := add_cons (40 :: X) [41] (40 :: (X ++ [41])) rfl (by simp only [List.length_cons, List.length_nil]; omega)
  clear h hG hFw ho hblk hask h00 h0 hl hak hX hlt
  go_enter Tryz.func92, Tryz.ntmps92
  go_upto_region 1 with fail
  generalize w.alloc (.cells (reC k x s (.slice ad ps.length cap) mn mx) 33) = W0 at *
  go_wp2_with (first | (go_at_call 90; refine hlv.mono ?_; clear hlv; rintro e W1 ⟨rfl, hb1⟩; have HB1 := hid (HB0.out.trans (hb1.mono (by omega))); have HBK1 := hid ((hb1.block w.heap.size (by omega)).trans HBK.out); clear hb1 c0 c1 c2 c3 c4 c5 c6 c7 c8; obtain ⟨c0, c1, c2, c3, c4, c5, c6, c7, c8⟩ := nine_of HBK1.out; have hcall := HCALL.out W1 HB1.out) | (go_at_call 92; refine hcall.mono ?_; clear hcall; rintro e W2 ⟨rfl, hb2⟩; have HB2 := hid (HB1.out.trans (hb2.mono HB1.out.size)); clear hb2))
  go_ret
  rw [HASK.out]
  exact ⟨rfl, HB2.out⟩
set_option maxRecDepth 100000 in
set_option maxHeartbeats 4000000 in
theorem re_not {p : Re} {asked : Nat} (hps : ReAt p 3) (hL : (askW setS p 3).length ≤ 1099511627776) (ha : asked ≤ 3) : ReAt (.mk 7 [] Se.none [p] 0 0) asked := by
  intro F cs w hFw h
  obtain ⟨ad, cap, rfl, hlen, ho⟩ := h.open
  have hask : askW setS (.mk 7 [] Se.none [p] 0 0) asked = reW setS (.mk 7 [] Se.none [p] 0 0) := (askW_own (show ¬ lev (.mk 7 [] Se.none [p] 0 0) < asked from Nat.not_lt.2 ha)).1
  have HFW := hid hFw
  have HO := hid ho
  unfold maxLen at hlen
  have HB0 := hid ((Below.refl w.heap.size w).alloc (Nat.le_refl _) (.cells (reC 7 [] Se.none (.slice ad [p].length cap) 0 0) 33))
  have hblk : (w.alloc (.cells (reC 7 [] Se.none (.slice ad [p].length cap) 0 0) 33)).heap[w.heap.size]? = some (.cells (reC 7 [] Se.none (.slice ad [p].length cap) 0 0) 33 (0, 0)) := heap_alloc_new _ _
  have hsz0 : (w.alloc (.cells (reC 7 [] Se.none (.slice ad [p].length cap) 0 0) 33)).heap.size = w.heap.size + 1 := by simp
  have HBK := hid hblk
  obtain ⟨c0, c1, c2, c3, c4, c5, c6, c7, c8⟩ := nine_of hblk
  have hlv := levelR_any 7 [] Se.none (.slice ad [p].length cap) 0 0 (w.alloc (.cells (reC 7 [] Se.none (.slice ad [p].length cap) 0 0) 33))
  clear h hFw ho hblk
  rw [show reW setS (.mk 7 [] Se.none [p] 0 0) = 33 :: askW setS p 3 from by rw [reW]; simp [partsW_one]] at hask
  have HASK := hid hask
  have HPS := hid hps
  have HL := hid hL
  have hk : ((levK 7 : Nat) : Int) = 3 := rfl
  rw [hk] at hlv
  obtain ⟨ask, hak⟩ : ∃ ask : Int, ask = (asked : Int) := ⟨_, rfl⟩
  have hlt0 : ¬ ((3 : Int) < ask) := by omega
  rw [← hak]
  clear hask hps hL hk hak ha
  obtain ⟨g, off, rfl, hgF, hparts⟩ := HO.out (by simp)
  obtain ⟨k1, x1, s1, ad1, n1, cap1, mn1, mx1, hr1, hc⟩ := hparts.at (i := 0) (r := p) rfl
  have hn1 : [p].length = 1 := rfl
  rw [hn1] at *
  go_enter Tryz.func92, Tryz.ntmps92
  go_upto_region 1 with fail
  generalize w.alloc (.cells (reC 7 [] Se.none (.slice (some ⟨g, off, none⟩) 1 cap) 0 0) 33) = W0 at *
  go_upto_region 3 with (go_at_call 90; refine hlv.mono ?_; clear hlv; rintro e W1 ⟨rfl, hb1⟩; have HB1 := hid (HB0.out.trans (hb1.mono (by omega))); have HBK1 := hid ((hb1.block w.heap.size (by omega)).trans HBK.out); have HS1 := hid hb1.size; clear hb1 c0 c1 c2 c3 c4 c5 c6 c7 c8)
  have hsz1 : w.heap.size + 1 ≤ W1.heap.size := by have := HS1.out; omega
  obtain ⟨c0, c1, c2, c3, c4, c5, c6, c7, c8⟩ := nine_of HBK1.out
  obtain ⟨a0, a1, a2, a3, a4, a5, a6, a7, a8⟩ := elem9_of (W := W1) (g := g) (o := off) fun j v hv => (HB1.out.cell (p := ⟨g, off + j, none⟩) (HFW.out g hgF)).trans (by have := hc j v hv; rwa [Nat.zero_mul, Nat.add_zero] at this)
  have hb2 : Below w.heap.size w (W1.alloc (.cells (reC k1 x1 s1 (.slice ad1 n1 cap1) mn1 mx1) 33)) := HB1.out.alloc (by omega) _
  have hbx2 : (W1.alloc (.cells (reC k1 x1 s1 (.slice ad1 n1 cap1) mn1 mx1) 33)).heap[W1.heap.size]? = some (.cells (reC k1 x1 s1 (.slice ad1 n1 cap1) mn1 mx1) 33 (0, 0)) := heap_alloc_new _ _
  have hz2 : (W1.alloc (.cells (reC k1 x1 s1 (.slice ad1 n1 cap1) mn1 mx1) 33)).heap.size = W1.heap.size + 1 := by simp
  have hbk2 : (W1.alloc (.cells (reC k1 x1 s1 (.slice ad1 n1 cap1) mn1 mx1) 33)).heap[w.heap.size]? = _ := (alloc_old (lt_of_heap HBK1.out)).trans HBK1.out
  have HCALL := hid (fun (W : World) (hW : Below w.heap.size w W) => HPS.out F _ W (fun g hg => by have := HFW.out g hg; have := hW.size; omega) (hr1.below HFW.out hW))
  have HBX2 := hid hbx2
  have HBK2 := hid hbk2
  have HB2 := hid hb2
  clear hparts hc hr1 hb2 hbx2 hbk2
  go_wp2
  refine wp_loop_rounds 2 ?_
  rw [rounds_succ]
  go_upto_region 8 with fail
  generalize W1.alloc (.cells (reC k1 x1 s1 (.slice ad1 n1 cap1) mn1 mx1) 33) = W2 at *
  clear c0 c1 c2 c3 c4 c5 c6 c7 c8 a0 a1 a2 a3 a4 a5 a6 a7 a8
  obtain ⟨c0, c1, c2, c3, c4, c5, c6, c7, c8⟩ := nine_of HBK2.out
  obtain ⟨a0, a1, a2, a3, a4, a5, a6, a7, a8⟩ := nine_of HBX2.out
  have hcall := HCALL.out W2 HB2.out
  generalize hX : askW setS p 3 = X at *
  have hadd := add_cons [33] X (33 :: X) rfl (by have := HL.out; simp only [List.length_cons, List.length_nil]; omega)
  clear hX
  go_wp2_with (go_at_call 92; refine hcall.mono ?_; clear hcall; rintro e W3 ⟨rfl, hb3⟩; have HB3 := hid (HB2.out.trans (hb3.mono HB2.out.size)); have HBK3 := hid ((hb3.block _ (lt_of_heap HBK2.out)).trans HBK2.out); clear hb3 c0 c1 c2 c3 c4 c5 c6 c7 c8; obtain ⟨c0, c1, c2, c3, c4, c5, c6, c7, c8⟩ := nine_of HBK3.out)
  rw [rounds_succ]
  go_wp2
  go_ret
  rw [HASK.out]
  exact ⟨rfl, HB3.out⟩
set_option maxRecDepth 100000 in
set_option maxHeartbeats 4000000 in
theorem re_rep {p : Re} {asked : Nat} {lo hi : Int} (hps : ReAt p 5) (hof : oftOk lo hi) (hL : (askW setS p 5).length ≤ 1099511627776) (ha : asked ≤ 4) : ReAt (.mk 8 [] Se.none [p] lo hi) asked := by
  intro F cs w hFw h
  obtain ⟨ad, cap, rfl, hlen, ho⟩ := h.open
  have hask : askW setS (.mk 8 [] Se.none [p] lo hi) asked = reW setS (.mk 8 [] Se.none [p] lo hi) := (askW_own (show ¬ lev (.mk 8 [] Se.none [p] lo hi) < asked from Nat.not_lt.2 ha)).1
  have HFW := hid hFw
  have HO := hid ho
  unfold maxLen at hlen
  have HB0 := hid ((Below.refl w.heap.size w).alloc (Nat.le_refl _) (.cells (reC 8 [] Se.none (.slice ad [p].length cap) lo hi) 33))
  have hblk : (w.alloc (.cells (reC 8 [] Se.none (.slice ad [p].length cap) lo hi) 33)).heap[w.heap.size]? = some (.cells (reC 8 [] Se.none (.slice ad [p].length cap) lo hi) 33 (0, 0)) := heap_alloc_new _ _
  have hsz0 : (w.alloc (.cells (reC 8 [] Se.none (.slice ad [p].length cap) lo hi) 33)).heap.size = w.heap.size + 1 := by simp
  have HBK := hid hblk
  obtain ⟨c0, c1, c2, c3, c4, c5, c6, c7, c8⟩ := nine_of hblk
  have hlv := levelR_any 8 [] Se.none (.slice ad [p].length cap) lo hi (w.alloc (.cells (reC 8 [] Se.none (.slice ad [p].length cap) lo hi) 33))
  clear h hFw ho hblk
  rw [show reW setS (.mk 8 [] Se.none [p] lo hi) = askW setS p 5 ++ oftenW lo hi from by rw [reW]; simp [partsW_one]] at hask
  have HASK := hid hask
  have HPS := hid hps
  have HL := hid hL
  have hk : ((levK 8 : Nat) : Int) = 4 := rfl
  rw [hk] at hlv
  obtain ⟨ask, hak⟩ : ∃ ask : Int, ask = (asked : Int) := ⟨_, rfl⟩
  have hlt0 : ¬ ((4 : Int) < ask) := by omega
  rw [← hak]
  clear hask hps hL hk hak ha
  obtain ⟨g, off, rfl, hgF, hparts⟩ := HO.out (by simp)
  obtain ⟨k1, x1, s1, ad1, n1, cap1, mn1, mx1, hr1, hc⟩ := hparts.at (i := 0) (r := p) rfl
  have hn1 : [p].length = 1 := rfl
  rw [hn1] at *
  go_enter Tryz.func92, Tryz.ntmps92
  go_upto_region 1 with fail
  generalize w.alloc (.cells (reC 8 [] Se.none (.slice (some ⟨g, off, none⟩) 1 cap) lo hi) 33) = W0 at *
  go_upto_region 3 with (go_at_call 90; refine hlv.mono ?_; clear hlv; rintro e W1 ⟨rfl, hb1⟩; have HB1 := hid (HB0.out.trans (hb1.mono (by omega))); have HBK1 := hid ((hb1.block w.heap.size (by omega)).trans HBK.out); have HS1 := hid hb1.size; clear hb1 c0 c1 c2 c3 c4 c5 c6 c7 c8)
  have hsz1 : w.heap.size + 1 ≤ W1.heap.size := by have := HS1.out; omega
  obtain ⟨c0, c1, c2, c3, c4, c5, c6, c7, c8⟩ := nine_of HBK1.out
  obtain ⟨a0, a1, a2, a3, a4, a5, a6, a7, a8⟩ := elem9_of (W := W1) (g := g) (o := off) fun j v hv => (HB1.out.cell (p := ⟨g, off + j, none⟩) (HFW.out g hgF)).trans (by have := hc j v hv; rwa [Nat.zero_mul, Nat.add_zero] at this)
  have hb2 : Below w.heap.size w (W1.alloc (.cells (reC k1 x1 s1 (.slice ad1 n1 cap1) mn1 mx1) 33)) := HB1.out.alloc (by omega) _
  have hbx2 : (W1.alloc (.cells (reC k1 x1 s1 (.slice ad1 n1 cap1) mn1 mx1) 33)).heap[W1.heap.size]? = some (.cells (reC k1 x1 s1 (.slice ad1 n1 cap1) mn1 mx1) 33 (0, 0)) := heap_alloc_new _ _
  have hz2 : (W1.alloc (.cells (reC k1 x1 s1 (.slice ad1 n1 cap1) mn1 mx1) 33)).heap.size = W1.heap.size + 1 := by simp
  have hbk2 : (W1.alloc (.cells (reC k1 x1 s1 (.slice ad1 n1 cap1) mn1 mx1) 33)).heap[w.heap.size]? = _ := (alloc_old (lt_of_heap HBK1.out)).trans HBK1.out
  have HCALL := hid (fun (W : World) (hW : Below w.heap.size w W) => HPS.out F _ W (fun g hg => by have := HFW.out g hg; have := hW.size; omega) (hr1.below HFW.out hW))
  have HBX2 := hid hbx2
  have HBK2 := hid hbk2
  have HB2 := hid hb2
  clear hparts hc hr1 hb2 hbx2 hbk2
  go_wp2
  refine wp_loop_rounds 2 ?_
  rw [rounds_succ]
  go_upto_region 8 with fail
  generalize W1.alloc (.cells (reC k1 x1 s1 (.slice ad1 n1 cap1) mn1 mx1) 33) = W2 at *
  clear c0 c1 c2 c3 c4 c5 c6 c7 c8 a0 a1 a2 a3 a4 a5 a6 a7 a8
  obtain ⟨c0, c1, c2, c3, c4, c5, c6, c7, c8⟩ := nine_of HBK2.out
  obtain ⟨a0, a1, a2, a3, a4, a5, a6, a7, a8⟩ := nine_of HBX2.out
  have hcall := HCALL.out W2 HB2.out
  have htm := fun W => timesR_any lo hi hof W
  have hol := oftenW_len lo hi
  generalize hX : askW setS p 5 = X at *
  generalize hY : oftenW lo hi = Y at *
  have hadd := add_str X Y (by have := HL.out; omega)
  clear hX hY hcall
  have HFQ := hid (show ∀ W, Below W2.heap.size W2 W → (fun W => (W.cell? ⟨W1.heap.size, 0, none⟩ = some (.int .i64 k1) ∧ W.cell? ⟨W1.heap.size, 1, none⟩ = some (.string ⟨x1.toArray⟩) ∧ W.cell? ⟨W1.heap.size, 2, none⟩ = some (.int .u64 s1.a) ∧ W.cell? ⟨W1.heap.size, 3, none⟩ = some (.int .u64 s1.b) ∧ W.cell? ⟨W1.heap.size, 4, none⟩ = some (.int .u64 s1.c) ∧ W.cell? ⟨W1.heap.size, 5, none⟩ = some (.int .u64 s1.d) ∧ W.cell? ⟨W1.heap.size, 6, none⟩ = some (.slice ad1 n1 cap1) ∧ W.cell? ⟨W1.heap.size, 7, none⟩ = some (.int .i64 mn1) ∧ W.cell? ⟨W1.heap.size, 8, none⟩ = some (.int .i64 mx1)) ∧ W.cell? ⟨w.heap.size, 7, none⟩ = some (.int .i64 lo) ∧ W.cell? ⟨w.heap.size, 8, none⟩ = some (.int .i64 hi)) W from fun W hW => by
    obtain ⟨a0, a1, a2, a3, a4, a5, a6, a7, a8⟩ := nine_of ((hW.block _ (lt_of_heap HBX2.out)).trans HBX2.out)
    obtain ⟨_, _, _, _, _, _, _, c7, c8⟩ := nine_of ((hW.block _ (lt_of_heap HBK2.out)).trans HBK2.out)
    exact ⟨⟨a0, a1, a2, a3, a4, a5, a6, a7, a8⟩, c7, c8⟩)
  have HD := hid ((Below.refl W2.heap.size W2).drew)
  have hcallD := HCALL.out W2.drew (HB2.out.trans (HD.out.mono HB2.out.size))
  go_upto_region 24 with fail
  clear c0 c1 c2 c3 c4 c5 c6 c7 c8 a0 a1 a2 a3 a4 a5 a6 a7 a8
  go_region_held3 (fun W => (W.cell? ⟨W1.heap.size, 0, none⟩ = some (.int .i64 k1) ∧ W.cell? ⟨W1.heap.size, 1, none⟩ = some (.string ⟨x1.toArray⟩) ∧ W.cell? ⟨W1.heap.size, 2, none⟩ = some (.int .u64 s1.a) ∧ W.cell? ⟨W1.heap.size, 3, none⟩ = some (.int .u64 s1.b) ∧ W.cell? ⟨W1.heap.size, 4, none⟩ = some (.int .u64 s1.c) ∧ W.cell? ⟨W1.heap.size, 5, none⟩ = some (.int .u64 s1.d) ∧ W.cell? ⟨W1.heap.size, 6, none⟩ = some (.slice ad1 n1 cap1) ∧ W.cell? ⟨W1.heap.size, 7, none⟩ = some (.int .i64 mn1) ∧ W.cell? ⟨W1.heap.size, 8, none⟩ = some (.int .i64 mx1)) ∧ W.cell? ⟨w.heap.size, 7, none⟩ = some (.int .i64 lo) ∧ W.cell? ⟨w.heap.size, 8, none⟩ = some (.int .i64 hi)) (first | exact HFQ.out _ HB4.out | exact HFQ.out _ HB3.out | exact HFQ.out _ HD.out | exact HFQ.out _ (Below.refl _ _)) ((first | (go_at_call 92; refine hcallD.mono ?_; clear hcallD; rintro e W3 ⟨rfl, hb3⟩; have HB3 := hid (HD.out.trans (hb3.mono HD.out.size)); clear hb3) | (go_at_call 137; refine (htm _).mono ?_; clear htm; rintro e W4 ⟨rfl, hb4⟩; have HB4 := hid (HB3.out.trans (hb4.mono HB3.out.size)); clear hb4)))
  have hbk4 := (HB4.out.block _ (lt_of_heap HBK2.out)).trans HBK2.out
  obtain ⟨c0, c1, c2, c3, c4, c5, c6, c7, c8⟩ := nine_of hbk4
  go_upto_region 5 with fail
  rw [rounds_succ]
  go_wp2
  go_ret
  rw [HASK.out]
  exact ⟨rfl, HB2.out.trans (HB4.out.mono HB2.out.size)⟩
set_option maxRecDepth 100000 in
set_option maxHeartbeats 4000000 in
theorem re_alt {ps : List Re} {asked : Nat} (hps : ∀ p ∈ ps, ReAt p 1) (hL : (partsW setS [32, 124, 32] 1 ps).length ≤ 1099511627776) (ha : asked ≤ 0) : ReAt (.mk 5 [] Se.none ps 0 0) asked := by
  intro F cs w hFw h
  obtain ⟨ad, cap, rfl, hlen, ho⟩ := h.open
  have hask : askW setS (.mk 5 [] Se.none ps 0 0) asked = reW setS (.mk 5 [] Se.none ps 0 0) := (askW_own (show ¬ lev (.mk 5 [] Se.none ps 0 0) < asked from Nat.not_lt.2 ha)).1
  have HFW := hid hFw
  have HO := hid ho
  unfold maxLen at hlen
  have HB0 := hid ((Below.refl w.heap.size w).alloc (Nat.le_refl _) (.cells (reC 5 [] Se.none (.slice ad ps.length cap) 0 0) 33))
  have hblk : (w.alloc (.cells (reC 5 [] Se.none (.slice ad ps.length cap) 0 0) 33)).heap[w.heap.size]? = some (.cells (reC 5 [] Se.none (.slice ad ps.length cap) 0 0) 33 (0, 0)) := heap_alloc_new _ _
  have hsz0 : (w.alloc (.cells (reC 5 [] Se.none (.slice ad ps.length cap) 0 0) 33)).heap.size = w.heap.size + 1 := by simp
  have HBK := hid hblk
  obtain ⟨c0, c1, c2, c3, c4, c5, c6, c7, c8⟩ := nine_of hblk
  have hlv := levelR_any 5 [] Se.none (.slice ad ps.length cap) 0 0 (w.alloc (.cells (reC 5 [] Se.none (.slice ad ps.length cap) 0 0) 33))
  clear h hFw ho hblk
  rw [show reW setS (.mk 5 [] Se.none ps 0 0) = partsW setS [32, 124, 32] 1 ps from by rw [reW]; rfl] at hask
  have HASK := hid hask
  have HPS := hid hps
  have HL := hid hL
  have hk : ((levK 5 : Nat) : Int) = 0 := rfl
  rw [hk] at hlv
  obtain ⟨ask, hak⟩ : ∃ ask : Int, ask = (asked : Int) := ⟨_, rfl⟩
  have hlt0 : ¬ ((0 : Int) < ask) := by omega
  rw [← hak]
  clear hask hps hL hk hak ha
  go_enter Tryz.func92, Tryz.ntmps92
  go_upto_region 1 with fail
  generalize w.alloc (.cells (reC 5 [] Se.none (.slice ad ps.length cap) 0 0) 33) = W0 at *
  go_upto_region 3 with (go_at_call 90; refine hlv.mono ?_; clear hlv; rintro e W1 ⟨rfl, hb1⟩; have HB1 := hid (HB0.out.trans (hb1.mono (by omega))); have HBK1 := hid ((hb1.block w.heap.size (by omega)).trans HBK.out); have HS1 := hid hb1.size; clear hb1 c0 c1 c2 c3 c4 c5 c6 c7 c8)
  have hsz1 : w.heap.size + 1 ≤ W1.heap.size := by have := HS1.out; omega
  go_wp2
  go_loopw [5, 6] (fun vo vi wr => ∃ i : Nat, i ≤ ps.length ∧ vi = .int .i64 i ∧ vo = .string ⟨(partsW setS [32, 124, 32] 1 (ps.take i)).toArray⟩ ∧ Hid (Below (w.heap.size + 1) W1 wr)) (fun _ vi _ => ps.length - (RowKit.intOf vi).toNat)
  case atStart => exact ⟨0, Nat.zero_le _, rfl, by rw [List.take_zero, partsW], hid (Below.refl _ _)⟩
  case round =>
    obtain ⟨i, hi, rfl, rfl, HB⟩ := hrel
    have hwr : Below w.heap.size w wr := HB1.out.trans (HB.out.mono (by omega))
    have hsz : w.heap.size + 1 ≤ wr.heap.size := Nat.le_trans hsz1 HB.out.size
    have hbk := (HB.out.block w.heap.size (by omega)).trans HBK1.out
    obtain ⟨c0, c1, c2, c3, c4, c5, c6, c7, c8⟩ := nine_of hbk
    by_cases hlt : i < ps.length
    · have hgi : (i : Int) < (ps.length : Int) := by omega
      obtain ⟨g, off, rfl, hgF, hparts⟩ := HO.out (by rintro rfl; simp at hlt)
      obtain ⟨k1, x1, s1, ad1, n1, cap1, mn1, mx1, hr1, hc⟩ := hparts.at (List.getElem?_eq_getElem hlt)
      obtain ⟨a0, a1, a2, a3, a4, a5, a6, a7, a8⟩ := elem9_of (W := wr) (g := g) (o := off + i * 9) fun j v hv => (hwr.cell (p := ⟨g, off + i * 9 + j, none⟩) (HFW.out g hgF)).trans (hc j v hv)
      have hb2 : Below w.heap.size w (wr.alloc (.cells (reC k1 x1 s1 (.slice ad1 n1 cap1) mn1 mx1) 33)) := hwr.alloc (by omega) _
      have hbx2 : (wr.alloc (.cells (reC k1 x1 s1 (.slice ad1 n1 cap1) mn1 mx1) 33)).heap[wr.heap.size]? = some (.cells (reC k1 x1 s1 (.slice ad1 n1 cap1) mn1 mx1) 33 (0, 0)) := heap_alloc_new _ _
      have hcall := HPS.out _ (List.getElem_mem hlt) F _ (wr.alloc (.cells (reC k1 x1 s1 (.slice ad1 n1 cap1) mn1 mx1) 33)) (fun g hg => by have := HFW.out g hg; simp; omega) (hr1.below HFW.out hb2)
      have HBX2 := hid hbx2
      have HB2 := hid (HB.out.trans ((Below.refl (w.heap.size + 1) wr).alloc hsz (.cells (reC k1 x1 s1 (.slice ad1 n1 cap1) mn1 mx1) 33)))
      have HSNOC := hid (show partsW setS [32, 124, 32] 1 (ps.take (i + 1)) = partsW setS [32, 124, 32] 1 (ps.take i) ++ ((if ps.take i = [] then [] else [32, 124, 32]) ++ askW setS ps[i] 1) by rw [take_snoc hlt, partsW_snoc])
      have HLE := hid (partsW_le [32, 124, 32] 1 ps (i + 1))
      have HTZ := hid (show ps.take i = [] ↔ i = 0 from ⟨fun h => by have := congrArg List.length h; rw [List.length_take, List.length_nil] at this; omega, fun h => by rw [h, List.take_zero]⟩)
      have hz2 : (wr.alloc (.cells (reC k1 x1 s1 (.slice ad1 n1 cap1) mn1 mx1) 33)).heap.size = wr.heap.size + 1 := by simp
      have hbk2 : (wr.alloc (.cells (reC k1 x1 s1 (.slice ad1 n1 cap1) mn1 mx1) 33)).heap[w.heap.size]? = _ := (alloc_old (lt_of_heap hbk)).trans hbk
      clear hparts hc hr1 hb2 hbk
      go_upto_region 8 with fail
      generalize wr.alloc (.cells (reC k1 x1 s1 (.slice ad1 n1 cap1) mn1 mx1) 33) = W2 at *
      clear c0 c1 c2 c3 c4 c5 c6 c7 c8 a0 a1 a2 a3 a4 a5 a6 a7 a8
      obtain ⟨c0, c1, c2, c3, c4, c5, c6, c7, c8⟩ := nine_of hbk2
      obtain ⟨a0, a1, a2, a3, a4, a5, a6, a7, a8⟩ := nine_of HBX2.out
      clear hbk2
      generalize hA : partsW setS [32, 124, 32] 1 (ps.take i) = A at *
      generalize hX : askW setS ps[i] 1 = X at *
      have HLEN := hid (show A.length + 3 + X.length ≤ 1099511627776 + 3 by
        have h1 := HLE.out
        have h2 := HL.out
        rw [HSNOC.out] at h1
        simp only [List.length_append] at h1
        omega)
      by_cases hi0 : i = 0
      · have HNEW := hid (show partsW setS [32, 124, 32] 1 (ps.take (i + 1)) = A ++ X by rw [HSNOC.out, if_pos (HTZ.out.2 hi0), List.nil_append])
        have hadd := add_str A X (by have := HLEN.out; omega)
        have hi0' : ¬ ((0 : Int) < (i : Int)) := by omega
        clear hA hX hi0
        go_wp2_with (go_at_call 92; refine hcall.mono ?_; clear hcall; rintro e W3 ⟨rfl, hb3⟩; have HB3 := hid (HB2.out.trans (hb3.mono (by omega))); clear hb3 c0 c1 c2 c3 c4 c5 c6 c7 c8)
        go_roundw
        case rel => exact ⟨i + 1, by omega, by go_num, by rw [HNEW.out], HB3⟩
        case measure => simp [RowKit.intOf]; omega
      · have HNEW := hid (show partsW setS [32, 124, 32] 1 (ps.take (i + 1)) = A ++ 32 :: 124 :: 32 :: X by rw [HSNOC.out, if_neg (fun h => hi0 (HTZ.out.1 h))]; rfl)
        have hi0' : (0 : Int) < (i : Int) := by omega
        have hadd1 := add_str A [32, 124, 32] (by have := HLEN.out; simp only [List.length_cons, List.length_nil]; omega)
        have hadd2 := add_cons (A ++ [32, 124, 32]) X (A ++ 32 :: 124 :: 32 :: X) (by simp) (by have := HLEN.out; simp only [List.length_append, List.length_cons, List.length_nil]; omega)
        clear hA hX hi0
        go_wp2_with (go_at_call 92; refine hcall.mono ?_; clear hcall; rintro e W3 ⟨rfl, hb3⟩; have HB3 := hid (HB2.out.trans (hb3.mono (by omega))); clear hb3 c0 c1 c2 c3 c4 c5 c6 c7 c8)
        go_roundw
        case rel => exact ⟨i + 1, by omega, by go_num, by rw [HNEW.out], HB3⟩
        case measure => simp [RowKit.intOf]; omega
    · obtain rfl : i = ps.length := by omega
      clear hlt hbk
      go_wp2
      go_ret
      rw [HASK.out, List.take_length]
      exact ⟨rfl, hwr⟩
set_option maxRecDepth 100000 in
set_option maxHeartbeats 4000000 in
theorem re_and {ps : List Re} {asked : Nat} (hps : ∀ p ∈ ps, ReAt p 2) (hL : (partsW setS [32, 38, 32] 2 ps).length ≤ 1099511627776) (ha : asked ≤ 1) : ReAt (.mk 6 [] Se.none ps 0 0) asked := by
  intro F cs w hFw h
  obtain ⟨ad, cap, rfl, hlen, ho⟩ := h.open
  have hask : askW setS (.mk 6 [] Se.none ps 0 0) asked = reW setS (.mk 6 [] Se.none ps 0 0) := (askW_own (show ¬ lev (.mk 6 [] Se.none ps 0 0) < asked from Nat.not_lt.2 ha)).1
  have HFW := hid hFw
  have HO := hid ho
  unfold maxLen at hlen
  have HB0 := hid ((Below.refl w.heap.size w).alloc (Nat.le_refl _) (.cells (reC 6 [] Se.none (.slice ad ps.length cap) 0 0) 33))
  have hblk : (w.alloc (.cells (reC 6 [] Se.none (.slice ad ps.length cap) 0 0) 33)).heap[w.heap.size]? = some (.cells (reC 6 [] Se.none (.slice ad ps.length cap) 0 0) 33 (0, 0)) := heap_alloc_new _ _
  have hsz0 : (w.alloc (.cells (reC 6 [] Se.none (.slice ad ps.length cap) 0 0) 33)).heap.size = w.heap.size + 1 := by simp
  have HBK := hid hblk
  obtain ⟨c0, c1, c2, c3, c4, c5, c6, c7, c8⟩ := nine_of hblk
  have hlv := levelR_any 6 [] Se.none (.slice ad ps.length cap) 0 0 (w.alloc (.cells (reC 6 [] Se.none (.slice ad ps.length cap) 0 0) 33))
  clear h hFw ho hblk
  rw [show reW setS (.mk 6 [] Se.none ps 0 0) = partsW setS [32, 38, 32] 2 ps from by rw [reW]; rfl] at hask
  have HASK := hid hask
  have HPS := hid hps
  have HL := hid hL
  have hk : ((levK 6 : Nat) : Int) = 1 := rfl
  rw [hk] at hlv
  obtain ⟨ask, hak⟩ : ∃ ask : Int, ask = (asked : Int) := ⟨_, rfl⟩
  have hlt0 : ¬ ((1 : Int) < ask) := by omega
  rw [← hak]
  clear hask hps hL hk hak ha
  go_enter Tryz.func92, Tryz.ntmps92
  go_upto_region 1 with fail
  generalize w.alloc (.cells (reC 6 [] Se.none (.slice ad ps.length cap) 0 0) 33) = W0 at *
  go_upto_region 3 with (go_at_call 90; refine hlv.mono ?_; clear hlv; rintro e W1 ⟨rfl, hb1⟩; have HB1 := hid (HB0.out.trans (hb1.mono (by omega))); have HBK1 := hid ((hb1.block w.heap.size (by omega)).trans HBK.out); have HS1 := hid hb1.size; clear hb1 c0 c1 c2 c3 c4 c5 c6 c7 c8)
  have hsz1 : w.heap.size + 1 ≤ W1.heap.size := by have := HS1.out; omega
  go_wp2
  go_loopw [5, 6] (fun vo vi wr => ∃ i : Nat, i ≤ ps.length ∧ vi = .int .i64 i ∧ vo = .string ⟨(partsW setS [32, 38, 32] 2 (ps.take i)).toArray⟩ ∧ Hid (Below (w.heap.size + 1) W1 wr)) (fun _ vi _ => ps.length - (RowKit.intOf vi).toNat)
  case atStart => exact ⟨0, Nat.zero_le _, rfl, by rw [List.take_zero, partsW], hid (Below.refl _ _)⟩
  case round =>
    obtain ⟨i, hi, rfl, rfl, HB⟩ := hrel
    have hwr : Below w.heap.size w wr := HB1.out.trans (HB.out.mono (by omega))
    have hsz : w.heap.size + 1 ≤ wr.heap.size := Nat.le_trans hsz1 HB.out.size
    have hbk := (HB.out.block w.heap.size (by omega)).trans HBK1.out
    obtain ⟨c0, c1, c2, c3, c4, c5, c6, c7, c8⟩ := nine_of hbk
    by_cases hlt : i < ps.length
    · have hgi : (i : Int) < (ps.length : Int) := by omega
      obtain ⟨g, off, rfl, hgF, hparts⟩ := HO.out (by rintro rfl; simp at hlt)
      obtain ⟨k1, x1, s1, ad1, n1, cap1, mn1, mx1, hr1, hc⟩ := hparts.at (List.getElem?_eq_getElem hlt)
      obtain ⟨a0, a1, a2, a3, a4, a5, a6, a7, a8⟩ := elem9_of (W := wr) (g := g) (o := off + i * 9) fun j v hv => (hwr.cell (p := ⟨g, off + i * 9 + j, none⟩) (HFW.out g hgF)).trans (hc j v hv)
      have hb2 : Below w.heap.size w (wr.alloc (.cells (reC k1 x1 s1 (.slice ad1 n1 cap1) mn1 mx1) 33)) := hwr.alloc (by omega) _
      have hbx2 : (wr.alloc (.cells (reC k1 x1 s1 (.slice ad1 n1 cap1) mn1 mx1) 33)).heap[wr.heap.size]? = some (.cells (reC k1 x1 s1 (.slice ad1 n1 cap1) mn1 mx1) 33 (0, 0)) := heap_alloc_new _ _
      have hcall := HPS.out _ (List.getElem_mem hlt) F _ (wr.alloc (.cells (reC k1 x1 s1 (.slice ad1 n1 cap1) mn1 mx1) 33)) (fun g hg => by have := HFW.out g hg; simp; omega) (hr1.below HFW.out hb2)
      have HBX2 := hid hbx2
      have HB2 := hid (HB.out.trans ((Below.refl (w.heap.size + 1) wr).alloc hsz (.cells (reC k1 x1 s1 (.slice ad1 n1 cap1) mn1 mx1) 33)))
      have HSNOC := hid (show partsW setS [32, 38, 32] 2 (ps.take (i + 1)) = partsW setS [32, 38, 32] 2 (ps.take i) ++ ((if ps.take i = [] then [] else [32, 38, 32]) ++ askW setS ps[i] 2) by rw [take_snoc hlt, partsW_snoc])
      have HLE := hid (partsW_le [32, 38, 32] 2 ps (i + 1))
      have HTZ := hid (show ps.take i = [] ↔ i = 0 from ⟨fun h => by have := congrArg List.length h; rw [List.length_take, List.length_nil] at this; omega, fun h => by rw [h, List.take_zero]⟩)
      have hz2 : (wr.alloc (.cells (reC k1 x1 s1 (.slice ad1 n1 cap1) mn1 mx1) 33)).heap.size = wr.heap.size + 1 := by simp
      have hbk2 : (wr.alloc (.cells (reC k1 x1 s1 (.slice ad1 n1 cap1) mn1 mx1) 33)).heap[w.heap.size]? = _ := (alloc_old (lt_of_heap hbk)).trans hbk
      clear hparts hc hr1 hb2 hbk
      go_upto_region 8 with fail
      generalize wr.alloc (.cells (reC k1 x1 s1 (.slice ad1 n1 cap1) mn1 mx1) 33) = W2 at *
      clear c0 c1 c2 c3 c4 c5 c6 c7 c8 a0 a1 a2 a3 a4 a5 a6 a7 a8
      obtain ⟨c0, c1, c2, c3, c4, c5, c6, c7, c8⟩ := nine_of hbk2
      obtain ⟨a0, a1, a2, a3, a4, a5, a6, a7, a8⟩ := nine_of HBX2.out
      clear hbk2
      generalize hA : partsW setS [32, 38, 32] 2 (ps.take i) = A at *
      generalize hX : askW setS ps[i] 2 = X at *
      have HLEN := hid (show A.length + 3 + X.length ≤ 1099511627776 + 3 by
        have h1 := HLE.out
        have h2 := HL.out
        rw [HSNOC.out] at h1
        simp only [List.length_append] at h1
        omega)
      by_cases hi0 : i = 0
      · have HNEW := hid (show partsW setS [32, 38, 32] 2 (ps.take (i + 1)) = A ++ X by rw [HSNOC.out, if_pos (HTZ.out.2 hi0), List.nil_append])
        have hadd := add_str A X (by have := HLEN.out; omega)
        have hi0' : ¬ ((0 : Int) < (i : Int)) := by omega
        clear hA hX hi0
        go_wp2_with (go_at_call 92; refine hcall.mono ?_; clear hcall; rintro e W3 ⟨rfl, hb3⟩; have HB3 := hid (HB2.out.trans (hb3.mono (by omega))); clear hb3 c0 c1 c2 c3 c4 c5 c6 c7 c8)
        go_roundw
        case rel => exact ⟨i + 1, by omega, by go_num, by rw [HNEW.out], HB3⟩
        case measure => simp [RowKit.intOf]; omega
      · have HNEW := hid (show partsW setS [32, 38, 32] 2 (ps.take (i + 1)) = A ++ 32 :: 38 :: 32 :: X by rw [HSNOC.out, if_neg (fun h => hi0 (HTZ.out.1 h))]; rfl)
        have hi0' : (0 : Int) < (i : Int) := by omega
        have hadd1 := add_str A [32, 38, 32] (by have := HLEN.out; simp only [List.length_cons, List.length_nil]; omega)
        have hadd2 := add_cons (A ++ [32, 38, 32]) X (A ++ 32 :: 38 :: 32 :: X) (by simp) (by have := HLEN.out; simp only [List.length_append, List.length_cons, List.length_nil]; omega)
        clear hA hX hi0
        go_wp2_with (go_at_call 92; refine hcall.mono ?_; clear hcall; rintro e W3 ⟨rfl, hb3⟩; have HB3 := hid (HB2.out.trans (hb3.mono (by omega))); clear hb3 c0 c1 c2 c3 c4 c5 c6 c7 c8)
        go_roundw
        case rel => exact ⟨i + 1, by omega, by go_num, by rw [HNEW.out], HB3⟩
        case measure => simp [RowKit.intOf]; omega
    · obtain rfl : i = ps.length := by omega
      clear hlt hbk
      go_wp2
      go_ret
      rw [HASK.out, List.take_length]
      exact ⟨rfl, hwr⟩
set_option maxRecDepth 100000 in
set_option maxHeartbeats 4000000 in
theorem re_cat {ps : List Re} {asked : Nat} (hps : ∀ p ∈ ps, ReAt p 3) (hL : (partsW setS [32] 3 ps).length ≤ 1099511627776) (ha : asked ≤ 2) : ReAt (.mk 4 [] Se.none ps 0 0) asked := by
  intro F cs w hFw h
  obtain ⟨ad, cap, rfl, hlen, ho⟩ := h.open
  have hask : askW setS (.mk 4 [] Se.none ps 0 0) asked = reW setS (.mk 4 [] Se.none ps 0 0) := (askW_own (show ¬ lev (.mk 4 [] Se.none ps 0 0) < asked from Nat.not_lt.2 ha)).1
  have HFW := hid hFw
  have HO := hid ho
  unfold maxLen at hlen
  have HB0 := hid ((Below.refl w.heap.size w).alloc (Nat.le_refl _) (.cells (reC 4 [] Se.none (.slice ad ps.length cap) 0 0) 33))
  have hblk : (w.alloc (.cells (reC 4 [] Se.none (.slice ad ps.length cap) 0 0) 33)).heap[w.heap.size]? = some (.cells (reC 4 [] Se.none (.slice ad ps.length cap) 0 0) 33 (0, 0)) := heap_alloc_new _ _
  have hsz0 : (w.alloc (.cells (reC 4 [] Se.none (.slice ad ps.length cap) 0 0) 33)).heap.size = w.heap.size + 1 := by simp
  have HBK := hid hblk
  obtain ⟨c0, c1, c2, c3, c4, c5, c6, c7, c8⟩ := nine_of hblk
  have hlv := levelR_any 4 [] Se.none (.slice ad ps.length cap) 0 0 (w.alloc (.cells (reC 4 [] Se.none (.slice ad ps.length cap) 0 0) 33))
  clear h hFw ho hblk
  rw [show reW setS (.mk 4 [] Se.none ps 0 0) = partsW setS [32] 3 ps from by rw [reW]; rfl] at hask
  have HASK := hid hask
  have HPS := hid hps
  have HL := hid hL
  have hk : ((levK 4 : Nat) : Int) = 2 := rfl
  rw [hk] at hlv
  obtain ⟨ask, hak⟩ : ∃ ask : Int, ask = (asked : Int) := ⟨_, rfl⟩
  have hlt0 : ¬ ((2 : Int) < ask) := by omega
  rw [← hak]
  clear hask hps hL hk hak ha
  go_enter Tryz.func92, Tryz.ntmps92
  go_upto_region 1 with fail
  generalize w.alloc (.cells (reC 4 [] Se.none (.slice ad ps.length cap) 0 0) 33) = W0 at *
  go_upto_region 3 with (go_at_call 90; refine hlv.mono ?_; clear hlv; rintro e W1 ⟨rfl, hb1⟩; have HB1 := hid (HB0.out.trans (hb1.mono (by omega))); have HBK1 := hid ((hb1.block w.heap.size (by omega)).trans HBK.out); have HS1 := hid hb1.size; clear hb1 c0 c1 c2 c3 c4 c5 c6 c7 c8)
  have hsz1 : w.heap.size + 1 ≤ W1.heap.size := by have := HS1.out; omega
  go_wp2
  go_loopw [5, 6] (fun vo vi wr => ∃ i : Nat, i ≤ ps.length ∧ vi = .int .i64 i ∧ vo = .string ⟨(partsW setS [32] 3 (ps.take i)).toArray⟩ ∧ Hid (Below (w.heap.size + 1) W1 wr)) (fun _ vi _ => ps.length - (RowKit.intOf vi).toNat)
  case atStart => exact ⟨0, Nat.zero_le _, rfl, by rw [List.take_zero, partsW], hid (Below.refl _ _)⟩
  case round =>
    obtain ⟨i, hi, rfl, rfl, HB⟩ := hrel
    have hwr : Below w.heap.size w wr := HB1.out.trans (HB.out.mono (by omega))
    have hsz : w.heap.size + 1 ≤ wr.heap.size := Nat.le_trans hsz1 HB.out.size
    have hbk := (HB.out.block w.heap.size (by omega)).trans HBK1.out
    obtain ⟨c0, c1, c2, c3, c4, c5, c6, c7, c8⟩ := nine_of hbk
    by_cases hlt : i < ps.length
    · have hgi : (i : Int) < (ps.length : Int) := by omega
      obtain ⟨g, off, rfl, hgF, hparts⟩ := HO.out (by rintro rfl; simp at hlt)
      obtain ⟨k1, x1, s1, ad1, n1, cap1, mn1, mx1, hr1, hc⟩ := hparts.at (List.getElem?_eq_getElem hlt)
      obtain ⟨a0, a1, a2, a3, a4, a5, a6, a7, a8⟩ := elem9_of (W := wr) (g := g) (o := off + i * 9) fun j v hv => (hwr.cell (p := ⟨g, off + i * 9 + j, none⟩) (HFW.out g hgF)).trans (hc j v hv)
      have hb2 : Below w.heap.size w (wr.alloc (.cells (reC k1 x1 s1 (.slice ad1 n1 cap1) mn1 mx1) 33)) := hwr.alloc (by omega) _
      have hbx2 : (wr.alloc (.cells (reC k1 x1 s1 (.slice ad1 n1 cap1) mn1 mx1) 33)).heap[wr.heap.size]? = some (.cells (reC k1 x1 s1 (.slice ad1 n1 cap1) mn1 mx1) 33 (0, 0)) := heap_alloc_new _ _
      have hcall := HPS.out _ (List.getElem_mem hlt) F _ (wr.alloc (.cells (reC k1 x1 s1 (.slice ad1 n1 cap1) mn1 mx1) 33)) (fun g hg => by have := HFW.out g hg; simp; omega) (hr1.below HFW.out hb2)
      have HBX2 := hid hbx2
      have HB2 := hid (HB.out.trans ((Below.refl (w.heap.size + 1) wr).alloc hsz (.cells (reC k1 x1 s1 (.slice ad1 n1 cap1) mn1 mx1) 33)))
      have HSNOC := hid (show partsW setS [32] 3 (ps.take (i + 1)) = partsW setS [32] 3 (ps.take i) ++ ((if ps.take i = [] then [] else [32]) ++ askW setS ps[i] 3) by rw [take_snoc hlt, partsW_snoc])
      have HLE := hid (partsW_le [32] 3 ps (i + 1))
      have HTZ := hid (show ps.take i = [] ↔ i = 0 from ⟨fun h => by have := congrArg List.length h; rw [List.length_take, List.length_nil] at this; omega, fun h => by rw [h, List.take_zero]⟩)
      have hz2 : (wr.alloc (.cells (reC k1 x1 s1 (.slice ad1 n1 cap1) mn1 mx1) 33)).heap.size = wr.heap.size + 1 := by simp
      have hbk2 : (wr.alloc (.cells (reC k1 x1 s1 (.slice ad1 n1 cap1) mn1 mx1) 33)).heap[w.heap.size]? = _ := (alloc_old (lt_of_heap hbk)).trans hbk
      clear hparts hc hr1 hb2 hbk
      go_upto_region 8 with fail
      generalize wr.alloc (.cells (reC k1 x1 s1 (.slice ad1 n1 cap1) mn1 mx1) 33) = W2 at *
      clear c0 c1 c2 c3 c4 c5 c6 c7 c8 a0 a1 a2 a3 a4 a5 a6 a7 a8
      obtain ⟨c0, c1, c2, c3, c4, c5, c6, c7, c8⟩ := nine_of hbk2
      obtain ⟨a0, a1, a2, a3, a4, a5, a6, a7, a8⟩ := nine_of HBX2.out
      clear hbk2
      generalize hA : partsW setS [32] 3 (ps.take i) = A at *
      generalize hX : askW setS ps[i] 3 = X at *
      have HLEN := hid (show A.length + 1 + X.length ≤ 1099511627776 + 1 by
        have h1 := HLE.out
        have h2 := HL.out
        rw [HSNOC.out] at h1
        simp only [List.length_append] at h1
        omega)
      by_cases hi0 : i = 0
      · have HNEW := hid (show partsW setS [32] 3 (ps.take (i + 1)) = A ++ X by rw [HSNOC.out, if_pos (HTZ.out.2 hi0), List.nil_append])
        have hadd := add_str A X (by have := HLEN.out; omega)
        have hi0' : ¬ ((0 : Int) < (i : Int)) := by omega
        clear hA hX hi0
        go_wp2_with (go_at_call 92; refine hcall.mono ?_; clear hcall; rintro e W3 ⟨rfl, hb3⟩; have HB3 := hid (HB2.out.trans (hb3.mono (by omega))); clear hb3 c0 c1 c2 c3 c4 c5 c6 c7 c8)
        go_roundw
        case rel => exact ⟨i + 1, by omega, by go_num, by rw [HNEW.out], HB3⟩
        case measure => simp [RowKit.intOf]; omega
      · have HNEW := hid (show partsW setS [32] 3 (ps.take (i + 1)) = A ++ 32 :: X by rw [HSNOC.out, if_neg (fun h => hi0 (HTZ.out.1 h))]; rfl)
        have hi0' : (0 : Int) < (i : Int) := by omega
        have hadd1 := add_str A [32] (by have := HLEN.out; simp only [List.length_cons, List.length_nil]; omega)
        have hadd2 := add_cons (A ++ [32]) X (A ++ 32 :: X) (by simp) (by have := HLEN.out; simp only [List.length_append, List.length_cons, List.length_nil]; omega)
        clear hA hX hi0
        go_wp2_with (go_at_call 92; refine hcall.mono ?_; clear hcall; rintro e W3 ⟨rfl, hb3⟩; have HB3 := hid (HB2.out.trans (hb3.mono (by omega))); clear hb3 c0 c1 c2 c3 c4 c5 c6 c7 c8)
        go_roundw
        case rel => exact ⟨i + 1, by omega, by go_num, by rw [HNEW.out], HB3⟩
        case measure => simp [RowKit.intOf]; omega
    · obtain rfl : i = ps.length := by omega
      clear hlt hbk
      go_wp2
      go_ret
      rw [HASK.out, List.take_length]
      exact ⟨rfl, hwr⟩
theorem tailW_mem {sep : List B} {q : Nat} : ∀ {l : List Re} {p : Re}, p ∈ l → (reW setS p).length ≤ (tailW setS sep q l).length
  | r :: l, p, h => by
    rw [tailW]
    simp only [List.length_append]
    rcases List.mem_cons.1 h with rfl | h
    · split <;> (first | omega | (simp only [List.length_cons, List.length_append, List.length_nil]; omega))
    · have := tailW_mem (sep := sep) (q := q) h
      omega
theorem partsW_mem {sep : List B} {q : Nat} {l : List Re} {p : Re} (h : p ∈ l) : (reW setS p).length ≤ (partsW setS sep q l).length := by
  rcases l with _ | ⟨r, l⟩
  · cases h
  · rw [partsW]
    simp only [List.length_append]
    rcases List.mem_cons.1 h with rfl | h
    · split <;> (first | omega | (simp only [List.length_cons, List.length_append, List.length_nil]; omega))
    · have := tailW_mem (sep := sep) (q := q) h
      omega
theorem reR_any : ∀ (h : Nat) (r : Re), OkRe h r → SeRe r → (reW setS r).length ≤ 1000000000 → ∀ asked, asked ≤ 5 → ReAt r asked
  | 0, r, hr, _, _ => by simp [OkRe] at hr
  | h + 1, .mk k x s ps mn mx, hr, hs, hL => by
    have hr' : Node k x s ps.length mn mx ∧ ∀ p ∈ ps, OkRe h p := by simpa [OkRe] using hr
    obtain ⟨hn, hp⟩ := hr'
    have key : ∀ asked, asked ≤ levK k → ReAt (.mk k x s ps mn mx) asked := by
      intro asked ha
      have hset := hs.set
      have ihs : ∀ p ∈ ps, SeRe p := fun p hp => hs.part hp
      have ih : ∀ p ∈ ps, (reW setS p).length ≤ 1000000000 → ∀ asked, asked ≤ 5 → ReAt p asked := fun p hpp hl => reR_any h p (hp p hpp) (ihs p hpp) hl
      have part : ∀ sep q, (partsW setS sep q ps).length ≤ 1000000000 → ∀ p ∈ ps, (reW setS p).length ≤ 1000000000 := fun sep q hq p hpp => Nat.le_trans (partsW_mem hpp) hq
      clear hr hp hs
      rw [reW] at hL
      generalize hl : ps.length = n at hn
      cases hn with
      | text x h => obtain rfl := List.length_eq_zero_iff.1 hl; exact re_text (by omega) ha
      | set s => obtain rfl := List.length_eq_zero_iff.1 hl; exact re_set hset ha
      | name x h hx => obtain rfl := List.length_eq_zero_iff.1 hl; exact re_name ha
      | cat n h =>
        have hL' : (partsW setS [32] 3 ps).length ≤ 1000000000 := hL
        exact re_cat (fun p hp => ih p hp (part _ _ hL' p hp) 3 (by omega)) (by omega) ha
      | alt n h =>
        have hL' : (partsW setS [32, 124, 32] 1 ps).length ≤ 1000000000 := hL
        exact re_alt (fun p hp => ih p hp (part _ _ hL' p hp) 1 (by omega)) (by omega) ha
      | and n h =>
        have hL' : (partsW setS [32, 38, 32] 2 ps).length ≤ 1000000000 := hL
        exact re_and (fun p hp => ih p hp (part _ _ hL' p hp) 2 (by omega)) (by omega) ha
      | not =>
        obtain ⟨p, rfl⟩ := one_of hl
        have hL' : (33 :: partsW setS [] 3 [p]).length ≤ 1000000000 := hL
        have hq : (partsW setS [] 3 [p]).length ≤ 1000000000 := by rw [List.length_cons] at hL'; omega
        have hq2 := hq
        rw [partsW_one] at hq2
        exact re_not (ih p List.mem_cons_self (part _ _ hq p List.mem_cons_self) 3 (by omega)) (by omega) ha
      | rep a b h =>
        obtain ⟨p, rfl⟩ := one_of hl
        have hL' : (partsW setS [] 5 [p] ++ oftenW mn mx).length ≤ 1000000000 := hL
        have hq : (partsW setS [] 5 [p]).length ≤ 1000000000 := by rw [List.length_append] at hL'; omega
        have hq2 := hq
        rw [partsW_one] at hq2
        exact re_rep (ih p List.mem_cons_self (part _ _ hq p List.mem_cons_self) 5 (by omega)) (Node.oft (.rep _ _ h)).1 (by omega) ha
    intro asked ha
    by_cases hlt : levK k < asked
    · exact re_bracket (key 0 (Nat.zero_le _)) hlt ha (by omega)
    · exact key asked (by omega)
end Go.Proofs.YtfljcfdfgojdoaaGreatDoor.Sh.Rf
