/-
  The reference's writing of a map. (Printed by genMp9.py.)
-/
import Derived.Test.YtfljcfdfgojdoaaGreatDoorFa38
import Derived.Test.YtfljcfdfgojdoaaGreatDoorFa34
import Derived.Test.YtfljcfdfgojdoaaGreatDoorFa18
namespace Go.Proofs.YtfljcfdfgojdoaaGreatDoor.Sh.Rf
open Go.RowKit Go.Lib Go.Proofs.YtfljcfdfgojdoaaGreatDoor Go.Proofs.YtfljcfdfgojdoaaGreatDoor.Sh

/-- the reference writes a map, asked for at a level -/
def MpAt (r : Mp) (asked : Nat) : Prop := ∀ (F : Nat → Prop) (y : Mw) (w : World), (∀ g, F g → g < w.heap.size) → MpG F w r y → Calls Tryz.prog 93 #[.agg y.cs, .int .i64 asked] w (StrPost (maskW setS r asked) w)
set_option maxRecDepth 100000 in
set_option maxHeartbeats 4000000 in
theorem mp_same {r : Re} {asked : Nat} (hre0 : ReAt r 0) (hrv : askW setS r 0 = leafOf setS r) (ha : asked ≤ 3) : MpAt (.mk 1 r [] ([] : List Mp) 0 0) asked := by
  intro F y w hFw h
  obtain ⟨e1, e2, e3, e4, e5, hre, hlen, ho⟩ := h.open
  obtain ⟨k', yr, o', ad, n', cap, mn', mx'⟩ := y
  dsimp only at e1 e2 e3 e4 e5 hre ho
  have e3 : n' = 0 := e3
  subst k' o' n' mn' mx'
  have hask : maskW setS (.mk 1 r [] ([] : List Mp) 0 0) asked = mpW setS (.mk 1 r [] ([] : List Mp) 0 0) := (maskW_own (show ¬ mlev (.mk 1 r [] ([] : List Mp) 0 0) < asked from Nat.not_lt.2 ha)).1
  rw [show mpW setS (.mk 1 r [] ([] : List Mp) 0 0) = leafOf setS r from by rw [mpW]; exact List.append_nil _] at hask
  have HFW := hid hFw
  have HO := hid ho
  unfold maxLen at hlen
  have HB0 := hid ((Below.refl w.heap.size w).alloc (Nat.le_refl _) (.cells (Mw.cs ⟨1, yr, [], ad, 0, cap, 0, 0⟩) 36))
  have hblk : (w.alloc (.cells (Mw.cs ⟨1, yr, [], ad, 0, cap, 0, 0⟩) 36)).heap[w.heap.size]? = some (.cells (Mw.cs ⟨1, yr, [], ad, 0, cap, 0, 0⟩) 36 (0, 0)) := heap_alloc_new _ _
  have hsz0 : (w.alloc (.cells (Mw.cs ⟨1, yr, [], ad, 0, cap, 0, 0⟩) 36)).heap.size = w.heap.size + 1 := by simp
  have HBK := hid hblk
  obtain ⟨c0, c1, c2, c3, c4, c5, c6, c7, c8, c9, c10, c11, c12, c13⟩ := fourteen_of hblk
  have hlv := mlevelR_any ⟨1, yr, [], ad, 0, cap, 0, 0⟩ (w.alloc (.cells (Mw.cs ⟨1, yr, [], ad, 0, cap, 0, 0⟩) 36))
  dsimp only at hlv
  have HASK := hid hask
  have hk : ((mlevK 1 : Nat) : Int) = 3 := rfl
  rw [hk] at hlv
  obtain ⟨ask, hak⟩ : ∃ ask : Int, ask = (asked : Int) := ⟨_, rfl⟩
  have hlt0 : ¬ ((3 : Int) < ask) := by omega
  rw [← hak]
  clear h hFw ho hblk hask hak ha
  rw [show ([] : List Mp).length = 0 from rfl] at *
  have HRC := hid (fun (W : World) (hW : Below w.heap.size w W) => hre0 F _ W (fun g hg => by have := HFW.out g hg; have := hW.size; omega) (hre.below HFW.out hW))
  rw [hrv] at HRC
  clear hk hre0 hre hrv
  go_enter Tryz.func93, Tryz.ntmps93
  go_upto_region 1 with fail
  generalize w.alloc (.cells (Mw.cs ⟨1, yr, [], ad, 0, cap, 0, 0⟩) 36) = W0 at *
  go_upto_region 3 with (go_at_call 91; refine hlv.mono ?_; clear hlv; rintro e W1 ⟨rfl, hb1⟩; have HB1 := hid (HB0.out.trans (hb1.mono (by omega))); have HBK1 := hid ((hb1.block w.heap.size (by omega)).trans HBK.out); have HS1 := hid hb1.size; clear hb1 c0 c1 c2 c3 c4 c5 c6 c7 c8 c9 c10 c11 c12 c13)
  have hsz1 : w.heap.size + 1 ≤ W1.heap.size := by have := HS1.out; omega
  obtain ⟨c0, c1, c2, c3, c4, c5, c6, c7, c8, c9, c10, c11, c12, c13⟩ := fourteen_of HBK1.out
  go_wp2
  refine wp_loop_rounds 1 ?_
  rw [rounds_succ]
  have hcall := HRC.out W1 HB1.out
  go_wp2_with (go_at_call 92; refine hcall.mono ?_; clear hcall; rintro e W3 ⟨rfl, hb3⟩)
  go_ret
  rw [HASK.out]
  exact ⟨rfl, HB1.out.trans (hb3.mono HB1.out.size)⟩
set_option maxRecDepth 100000 in
set_option maxHeartbeats 4000000 in
theorem mp_out {r : Re} {o : List B} {asked : Nat} (hre0 : ReAt r 0) (hrv : askW setS r 0 = leafOf setS r) (hrl : (leafOf setS r).length ≤ 1000000000) (ho0 : o.length ≤ 256) (ha : asked ≤ 3) : MpAt (.mk 2 r o ([] : List Mp) 0 0) asked := by
  intro F y w hFw h
  obtain ⟨e1, e2, e3, e4, e5, hre, hlen, ho⟩ := h.open
  obtain ⟨k', yr, o', ad, n', cap, mn', mx'⟩ := y
  dsimp only at e1 e2 e3 e4 e5 hre ho
  have e3 : n' = 0 := e3
  subst k' o' n' mn' mx'
  have hask : maskW setS (.mk 2 r o ([] : List Mp) 0 0) asked = mpW setS (.mk 2 r o ([] : List Mp) 0 0) := (maskW_own (show ¬ mlev (.mk 2 r o ([] : List Mp) 0 0) < asked from Nat.not_lt.2 ha)).1
  rw [show mpW setS (.mk 2 r o ([] : List Mp) 0 0) = leafOf setS r ++ 58 :: textW o from by rw [mpW]; rfl] at hask
  have HFW := hid hFw
  have HO := hid ho
  unfold maxLen at hlen
  have HB0 := hid ((Below.refl w.heap.size w).alloc (Nat.le_refl _) (.cells (Mw.cs ⟨2, yr, o, ad, 0, cap, 0, 0⟩) 36))
  have hblk : (w.alloc (.cells (Mw.cs ⟨2, yr, o, ad, 0, cap, 0, 0⟩) 36)).heap[w.heap.size]? = some (.cells (Mw.cs ⟨2, yr, o, ad, 0, cap, 0, 0⟩) 36 (0, 0)) := heap_alloc_new _ _
  have hsz0 : (w.alloc (.cells (Mw.cs ⟨2, yr, o, ad, 0, cap, 0, 0⟩) 36)).heap.size = w.heap.size + 1 := by simp
  have HBK := hid hblk
  obtain ⟨c0, c1, c2, c3, c4, c5, c6, c7, c8, c9, c10, c11, c12, c13⟩ := fourteen_of hblk
  have hlv := mlevelR_any ⟨2, yr, o, ad, 0, cap, 0, 0⟩ (w.alloc (.cells (Mw.cs ⟨2, yr, o, ad, 0, cap, 0, 0⟩) 36))
  dsimp only at hlv
  have HASK := hid hask
  have hk : ((mlevK 2 : Nat) : Int) = 3 := rfl
  rw [hk] at hlv
  obtain ⟨ask, hak⟩ : ∃ ask : Int, ask = (asked : Int) := ⟨_, rfl⟩
  have hlt0 : ¬ ((3 : Int) < ask) := by omega
  rw [← hak]
  clear h hFw ho hblk hask hak ha
  rw [show ([] : List Mp).length = 0 from rfl] at *
  have HRC := hid (fun (W : World) (hW : Below w.heap.size w W) => hre0 F _ W (fun g hg => by have := HFW.out g hg; have := hW.size; omega) (hre.below HFW.out hW))
  rw [hrv] at HRC
  clear hk hre0 hre hrv
  go_enter Tryz.func93, Tryz.ntmps93
  go_upto_region 1 with fail
  generalize w.alloc (.cells (Mw.cs ⟨2, yr, o, ad, 0, cap, 0, 0⟩) 36) = W0 at *
  go_upto_region 3 with (go_at_call 91; refine hlv.mono ?_; clear hlv; rintro e W1 ⟨rfl, hb1⟩; have HB1 := hid (HB0.out.trans (hb1.mono (by omega))); have HBK1 := hid ((hb1.block w.heap.size (by omega)).trans HBK.out); have HS1 := hid hb1.size; clear hb1 c0 c1 c2 c3 c4 c5 c6 c7 c8 c9 c10 c11 c12 c13)
  have hsz1 : w.heap.size + 1 ≤ W1.heap.size := by have := HS1.out; omega
  obtain ⟨c0, c1, c2, c3, c4, c5, c6, c7, c8, c9, c10, c11, c12, c13⟩ := fourteen_of HBK1.out
  go_wp2
  refine wp_loop_rounds 1 ?_
  rw [rounds_succ]
  have htx := textE_any ⟨o.toArray⟩ (by rw [str_size]; omega)
  have hsx : (⟨o.toArray⟩ : ByteArray).data.toList = o := rfl
  rw [hsx] at htx
  have htl := textW_len o
  generalize hX : leafOf setS r = X at *
  generalize hY : textW o = Y at *
  have hadd1 := add_str X [58] (by simp only [List.length_cons, List.length_nil]; omega)
  have hadd2 := add_cons (X ++ [58]) Y (X ++ 58 :: Y) (by simp) (by simp only [List.length_append, List.length_cons, List.length_nil]; omega)
  clear hX hY
  have HFQ := hid (show ∀ W, Below W1.heap.size W1 W → (fun W : World => W.cell? ⟨w.heap.size, 1, none⟩ = some (.int .i64 yr.k) ∧ W.cell? ⟨w.heap.size, 2, none⟩ = some (.string ⟨yr.x.toArray⟩) ∧ W.cell? ⟨w.heap.size, 3, none⟩ = some (.int .u64 yr.s.a) ∧ W.cell? ⟨w.heap.size, 4, none⟩ = some (.int .u64 yr.s.b) ∧ W.cell? ⟨w.heap.size, 5, none⟩ = some (.int .u64 yr.s.c) ∧ W.cell? ⟨w.heap.size, 6, none⟩ = some (.int .u64 yr.s.d) ∧ W.cell? ⟨w.heap.size, 7, none⟩ = some (.slice yr.ad yr.n yr.cap) ∧ W.cell? ⟨w.heap.size, 8, none⟩ = some (.int .i64 yr.mn) ∧ W.cell? ⟨w.heap.size, 9, none⟩ = some (.int .i64 yr.mx) ∧ W.cell? ⟨w.heap.size, 10, none⟩ = some (.string ⟨o.toArray⟩)) W from fun W hW => by
    obtain ⟨c0, c1, c2, c3, c4, c5, c6, c7, c8, c9, c10, c11, c12, c13⟩ := fourteen_of ((hW.block _ (lt_of_heap HBK1.out)).trans HBK1.out)
    exact ⟨c1, c2, c3, c4, c5, c6, c7, c8, c9, c10⟩)
  have HD := hid ((Below.refl W1.heap.size W1).drew)
  have hcallD := HRC.out W1.drew (HB1.out.trans (HD.out.mono HB1.out.size))
  go_upto_region 22 with fail
  clear c0 c1 c2 c3 c4 c5 c6 c7 c8 c9 c10 c11 c12 c13
  go_region_held3 (fun W : World => W.cell? ⟨w.heap.size, 1, none⟩ = some (.int .i64 yr.k) ∧ W.cell? ⟨w.heap.size, 2, none⟩ = some (.string ⟨yr.x.toArray⟩) ∧ W.cell? ⟨w.heap.size, 3, none⟩ = some (.int .u64 yr.s.a) ∧ W.cell? ⟨w.heap.size, 4, none⟩ = some (.int .u64 yr.s.b) ∧ W.cell? ⟨w.heap.size, 5, none⟩ = some (.int .u64 yr.s.c) ∧ W.cell? ⟨w.heap.size, 6, none⟩ = some (.int .u64 yr.s.d) ∧ W.cell? ⟨w.heap.size, 7, none⟩ = some (.slice yr.ad yr.n yr.cap) ∧ W.cell? ⟨w.heap.size, 8, none⟩ = some (.int .i64 yr.mn) ∧ W.cell? ⟨w.heap.size, 9, none⟩ = some (.int .i64 yr.mx) ∧ W.cell? ⟨w.heap.size, 10, none⟩ = some (.string ⟨o.toArray⟩)) (first | exact HFQ.out _ HB4.out | exact HFQ.out _ HB3.out | exact HFQ.out _ HD.out | exact HFQ.out _ (Below.refl _ _)) ((first | (go_at_call 92; refine hcallD.mono ?_; clear hcallD; rintro e W3 ⟨rfl, hb3⟩; have HB3 := hid (HD.out.trans (hb3.mono HD.out.size)); clear hb3) | (go_at_call 94; refine (htx _).mono ?_; clear htx; rintro e W4 ⟨rfl, hb4⟩; have HB4 := hid (HB3.out.trans (hb4.mono HB3.out.size)); clear hb4)))
  go_wp2
  go_ret
  rw [HASK.out]
  exact ⟨rfl, HB1.out.trans (HB4.out.mono HB1.out.size)⟩
set_option maxRecDepth 100000 in
set_option maxHeartbeats 1000000 in
theorem mp_bracket {r : Mp} {asked : Nat} (h0 : MpAt r 0) (hlt : mlev r < asked) (hL : (mpW setS r).length ≤ 1099511627776) : MpAt r asked := by
  intro F y w hFw h
  have hyk : mlevK y.k = mlev r := by
    obtain ⟨k, x, s, ps, mn, mx⟩ := r
    have := h.open.1
    rw [this]; rfl
  have hask : maskW setS r asked = 40 :: (mpW setS r ++ [41]) := by unfold maskW; rw [if_pos hlt]
  have h00 : maskW setS r 0 = mpW setS r := (maskW_own (by omega)).1
  have HASK := hid hask
  have HB0 := hid ((Below.refl w.heap.size w).alloc (Nat.le_refl _) (.cells y.cs 36))
  have hblk : (w.alloc (.cells y.cs 36)).heap[w.heap.size]? = some (.cells y.cs 36 (0, 0)) := heap_alloc_new _ _
  have hsz0 : (w.alloc (.cells y.cs 36)).heap.size = w.heap.size + 1 := by simp
  have HBK := hid hblk
  obtain ⟨c0, c1, c2, c3, c4, c5, c6, c7, c8, c9, c10, c11, c12, c13⟩ := four10_of hblk
  have hlv := mlevelR_any y (w.alloc (.cells y.cs 36))
  rw [hyk] at hlv
  have HCALL := hid (fun (W : World) (hW : Below w.heap.size w W) => h0 F _ W (fun g hg => by have := hFw g hg; have := hW.size; omega) (h.below hFw hW))
  rw [h00] at HCALL
  obtain ⟨lv, hl⟩ : ∃ lv : Int, lv = ((mlev r : Nat) : Int) := ⟨_, rfl⟩
  obtain ⟨ask, hak⟩ : ∃ ask : Int, ask = (asked : Int) := ⟨_, rfl⟩
  have hlt' : lv < ask := by omega
  rw [← hl] at hlv
  rw [← hak]
  generalize hX : mpW setS r = X at *
  have hadd1 := add_cons [40] X (40 :: X) rfl (by simp only [List.length_cons, List.length_nil]; omega)
  have hadd2 := add_cons (40 :: X) [41] (40 :: (X ++ [41])) rfl (by simp only [List.length_cons, List.length_nil]; omega)
  clear h hFw hblk hask h00 h0 hl hak hX hlt hyk
  go_enter Tryz.func93, Tryz.ntmps93
  go_upto_region 1 with fail
  generalize w.alloc (.cells y.cs 36) = W0 at *
  go_wp2_with (first | (go_at_call 91; refine hlv.mono ?_; clear hlv; rintro e W1 ⟨rfl, hb1⟩; have HB1 := hid (HB0.out.trans (hb1.mono (by omega))); have HBK1 := hid ((hb1.block w.heap.size (by omega)).trans HBK.out); clear hb1 c0 c1 c2 c3 c4 c5 c6 c7 c8 c9 c10 c11 c12 c13; obtain ⟨c0, c1, c2, c3, c4, c5, c6, c7, c8, c9, c10, c11, c12, c13⟩ := four10_of HBK1.out; have hcall := HCALL.out W1 HB1.out) | (go_at_call 93; refine hcall.mono ?_; clear hcall; rintro e W2 ⟨rfl, hb2⟩; have HB2 := hid (HB1.out.trans (hb2.mono HB1.out.size)); clear hb2))
  go_ret
  rw [HASK.out]
  exact ⟨rfl, HB2.out⟩
set_option maxRecDepth 100000 in
set_option maxHeartbeats 4000000 in
theorem mp_rep {p : Mp} {asked : Nat} {lo hi : Int} (hps : MpAt p 3) (hof : oftOk lo hi) (hL : (maskW setS p 3).length ≤ 1099511627776) (ha : asked ≤ 2) : MpAt (.mk 5 Re.zero [] [p] lo hi) asked := by
  intro F y w hFw h
  obtain ⟨e1, e2, e3, e4, e5, hre, hlen, ho⟩ := h.open
  obtain ⟨k', yr, o', ad, n', cap, mn', mx'⟩ := y
  dsimp only at e1 e2 e3 e4 e5 hre ho
  have e3 : n' = 1 := e3
  subst k' o' n' mn' mx'
  have hask : maskW setS (.mk 5 Re.zero [] [p] lo hi) asked = mpW setS (.mk 5 Re.zero [] [p] lo hi) := (maskW_own (show ¬ mlev (.mk 5 Re.zero [] [p] lo hi) < asked from Nat.not_lt.2 ha)).1
  rw [show mpW setS (.mk 5 Re.zero [] [p] lo hi) = maskW setS p 3 ++ oftenW lo hi from by rw [mpW]; simp [mpartsW_one]] at hask
  have HFW := hid hFw
  have HO := hid ho
  unfold maxLen at hlen
  have HB0 := hid ((Below.refl w.heap.size w).alloc (Nat.le_refl _) (.cells (Mw.cs ⟨5, yr, [], ad, 1, cap, lo, hi⟩) 36))
  have hblk : (w.alloc (.cells (Mw.cs ⟨5, yr, [], ad, 1, cap, lo, hi⟩) 36)).heap[w.heap.size]? = some (.cells (Mw.cs ⟨5, yr, [], ad, 1, cap, lo, hi⟩) 36 (0, 0)) := heap_alloc_new _ _
  have hsz0 : (w.alloc (.cells (Mw.cs ⟨5, yr, [], ad, 1, cap, lo, hi⟩) 36)).heap.size = w.heap.size + 1 := by simp
  have HBK := hid hblk
  obtain ⟨c0, c1, c2, c3, c4, c5, c6, c7, c8, c9, c10, c11, c12, c13⟩ := fourteen_of hblk
  have hlv := mlevelR_any ⟨5, yr, [], ad, 1, cap, lo, hi⟩ (w.alloc (.cells (Mw.cs ⟨5, yr, [], ad, 1, cap, lo, hi⟩) 36))
  dsimp only at hlv
  have HASK := hid hask
  have hk : ((mlevK 5 : Nat) : Int) = 2 := rfl
  rw [hk] at hlv
  obtain ⟨ask, hak⟩ : ∃ ask : Int, ask = (asked : Int) := ⟨_, rfl⟩
  have hlt0 : ¬ ((2 : Int) < ask) := by omega
  rw [← hak]
  clear h hFw ho hblk hask hak ha
  have HPS := hid hps
  have HL := hid hL
  clear hps hL hk hre
  obtain ⟨g, off, rfl, hgF, hparts⟩ := HO.out (by simp)
  obtain ⟨z, hr1, hc⟩ := hparts.at (i := 0) (r := p) rfl
  go_enter Tryz.func93, Tryz.ntmps93
  go_upto_region 1 with fail
  generalize w.alloc (.cells (Mw.cs ⟨5, yr, [], (some ⟨g, off, none⟩), 1, cap, lo, hi⟩) 36) = W0 at *
  go_upto_region 3 with (go_at_call 91; refine hlv.mono ?_; clear hlv; rintro e W1 ⟨rfl, hb1⟩; have HB1 := hid (HB0.out.trans (hb1.mono (by omega))); have HBK1 := hid ((hb1.block w.heap.size (by omega)).trans HBK.out); have HS1 := hid hb1.size; clear hb1 c0 c1 c2 c3 c4 c5 c6 c7 c8 c9 c10 c11 c12 c13)
  have hsz1 : w.heap.size + 1 ≤ W1.heap.size := by have := HS1.out; omega
  obtain ⟨c0, c1, c2, c3, c4, c5, c6, c7, c8, c9, c10, c11, c12, c13⟩ := fourteen_of HBK1.out
  obtain ⟨a0, a1, a2, a3, a4, a5, a6, a7, a8, a9, a10, a11, a12, a13⟩ := elem14_of (W := W1) (g := g) (o := off) (y := z) fun j v hv => (HB1.out.cell (p := ⟨g, off + j, none⟩) (HFW.out g hgF)).trans (by have := hc j v hv; rwa [Nat.zero_mul, Nat.add_zero] at this)
  have hb2 : Below w.heap.size w (W1.alloc (.cells z.cs 36)) := HB1.out.alloc (by omega) _
  have hbx2 : (W1.alloc (.cells z.cs 36)).heap[W1.heap.size]? = some (.cells z.cs 36 (0, 0)) := heap_alloc_new _ _
  have hz2 : (W1.alloc (.cells z.cs 36)).heap.size = W1.heap.size + 1 := by simp
  have hbk2 : (W1.alloc (.cells z.cs 36)).heap[w.heap.size]? = _ := (alloc_old (lt_of_heap HBK1.out)).trans HBK1.out
  have HCALL := hid (fun (W : World) (hW : Below w.heap.size w W) => HPS.out F _ W (fun g hg => by have := HFW.out g hg; have := hW.size; omega) (hr1.below HFW.out hW))
  have HBX2 := hid hbx2
  have HBK2 := hid hbk2
  have HB2 := hid hb2
  clear hparts hc hr1 hb2 hbx2 hbk2
  go_wp2
  refine wp_loop_rounds 2 ?_
  rw [rounds_succ]
  go_upto_region 8 with fail
  generalize W1.alloc (.cells z.cs 36) = W2 at *
  clear c0 c1 c2 c3 c4 c5 c6 c7 c8 c9 c10 c11 c12 c13 a0 a1 a2 a3 a4 a5 a6 a7 a8 a9 a10 a11 a12 a13
  obtain ⟨c0, c1, c2, c3, c4, c5, c6, c7, c8, c9, c10, c11, c12, c13⟩ := fourteen_of HBK2.out
  obtain ⟨a0, a1, a2, a3, a4, a5, a6, a7, a8, a9, a10, a11, a12, a13⟩ := four10_of HBX2.out
  have hcall := HCALL.out W2 HB2.out
  have htm := fun W => timesR_any lo hi hof W
  have hol := oftenW_len lo hi
  generalize hX : maskW setS p 3 = X at *
  generalize hY : oftenW lo hi = Y at *
  have hadd := add_str X Y (by have := HL.out; omega)
  clear hX hY hcall
  have HFQ := hid (show ∀ W, Below W2.heap.size W2 W → (fun W => (W.cell? ⟨W1.heap.size, 0, none⟩ = some (.int .i64 z.k) ∧ W.cell? ⟨W1.heap.size, 1, none⟩ = some (.int .i64 z.r.k) ∧ W.cell? ⟨W1.heap.size, 2, none⟩ = some (.string ⟨z.r.x.toArray⟩) ∧ W.cell? ⟨W1.heap.size, 3, none⟩ = some (.int .u64 z.r.s.a) ∧ W.cell? ⟨W1.heap.size, 4, none⟩ = some (.int .u64 z.r.s.b) ∧ W.cell? ⟨W1.heap.size, 5, none⟩ = some (.int .u64 z.r.s.c) ∧ W.cell? ⟨W1.heap.size, 6, none⟩ = some (.int .u64 z.r.s.d) ∧ W.cell? ⟨W1.heap.size, 7, none⟩ = some (.slice z.r.ad z.r.n z.r.cap) ∧ W.cell? ⟨W1.heap.size, 8, none⟩ = some (.int .i64 z.r.mn) ∧ W.cell? ⟨W1.heap.size, 9, none⟩ = some (.int .i64 z.r.mx) ∧ W.cell? ⟨W1.heap.size, 10, none⟩ = some (.string ⟨z.o.toArray⟩) ∧ W.cell? ⟨W1.heap.size, 11, none⟩ = some (.slice z.ad z.n z.cap) ∧ W.cell? ⟨W1.heap.size, 12, none⟩ = some (.int .i64 z.mn) ∧ W.cell? ⟨W1.heap.size, 13, none⟩ = some (.int .i64 z.mx)) ∧ W.cell? ⟨w.heap.size, 12, none⟩ = some (.int .i64 lo) ∧ W.cell? ⟨w.heap.size, 13, none⟩ = some (.int .i64 hi)) W from fun W hW => by
    obtain ⟨_, _, _, _, _, _, _, _, _, _, _, _, c12, c13⟩ := fourteen_of ((hW.block _ (lt_of_heap HBK2.out)).trans HBK2.out)
    exact ⟨four10_of ((hW.block _ (lt_of_heap HBX2.out)).trans HBX2.out), c12, c13⟩)
  have HD := hid ((Below.refl W2.heap.size W2).drew)
  have hcallD := HCALL.out W2.drew (HB2.out.trans (HD.out.mono HB2.out.size))
  go_upto_region 18 with fail
  clear c0 c1 c2 c3 c4 c5 c6 c7 c8 c9 c10 c11 c12 c13 a0 a1 a2 a3 a4 a5 a6 a7 a8 a9 a10 a11 a12 a13
  go_region_held3 (fun W => (W.cell? ⟨W1.heap.size, 0, none⟩ = some (.int .i64 z.k) ∧ W.cell? ⟨W1.heap.size, 1, none⟩ = some (.int .i64 z.r.k) ∧ W.cell? ⟨W1.heap.size, 2, none⟩ = some (.string ⟨z.r.x.toArray⟩) ∧ W.cell? ⟨W1.heap.size, 3, none⟩ = some (.int .u64 z.r.s.a) ∧ W.cell? ⟨W1.heap.size, 4, none⟩ = some (.int .u64 z.r.s.b) ∧ W.cell? ⟨W1.heap.size, 5, none⟩ = some (.int .u64 z.r.s.c) ∧ W.cell? ⟨W1.heap.size, 6, none⟩ = some (.int .u64 z.r.s.d) ∧ W.cell? ⟨W1.heap.size, 7, none⟩ = some (.slice z.r.ad z.r.n z.r.cap) ∧ W.cell? ⟨W1.heap.size, 8, none⟩ = some (.int .i64 z.r.mn) ∧ W.cell? ⟨W1.heap.size, 9, none⟩ = some (.int .i64 z.r.mx) ∧ W.cell? ⟨W1.heap.size, 10, none⟩ = some (.string ⟨z.o.toArray⟩) ∧ W.cell? ⟨W1.heap.size, 11, none⟩ = some (.slice z.ad z.n z.cap) ∧ W.cell? ⟨W1.heap.size, 12, none⟩ = some (.int .i64 z.mn) ∧ W.cell? ⟨W1.heap.size, 13, none⟩ = some (.int .i64 z.mx)) ∧ W.cell? ⟨w.heap.size, 12, none⟩ = some (.int .i64 lo) ∧ W.cell? ⟨w.heap.size, 13, none⟩ = some (.int .i64 hi)) (first | exact HFQ.out _ HB4.out | exact HFQ.out _ HB3.out | exact HFQ.out _ HD.out | exact HFQ.out _ (Below.refl _ _)) ((first | (go_at_call 93; refine hcallD.mono ?_; clear hcallD; rintro e W3 ⟨rfl, hb3⟩; have HB3 := hid (HD.out.trans (hb3.mono HD.out.size)); clear hb3) | (go_at_call 137; refine (htm _).mono ?_; clear htm; rintro e W4 ⟨rfl, hb4⟩; have HB4 := hid (HB3.out.trans (hb4.mono HB3.out.size)); clear hb4)))
  have hbk4 := (HB4.out.block _ (lt_of_heap HBK2.out)).trans HBK2.out
  obtain ⟨c0, c1, c2, c3, c4, c5, c6, c7, c8, c9, c10, c11, c12, c13⟩ := fourteen_of hbk4
  go_upto_region 5 with fail
  rw [rounds_succ]
  go_wp2
  go_ret
  rw [HASK.out]
  exact ⟨rfl, HB2.out.trans (HB4.out.mono HB2.out.size)⟩
set_option maxRecDepth 100000 in
set_option maxHeartbeats 4000000 in
theorem mp_alt {ps : List Mp} {asked : Nat} (hps : ∀ p ∈ ps, MpAt p 1) (hL : (mpartsW setS [32, 124, 32] 1 ps).length ≤ 1099511627776) (ha : asked ≤ 0) : MpAt (.mk 4 Re.zero [] ps 0 0) asked := by
  intro F y w hFw h
  obtain ⟨e1, e2, e3, e4, e5, hre, hlen, ho⟩ := h.open
  obtain ⟨k', yr, o', ad, n', cap, mn', mx'⟩ := y
  dsimp only at e1 e2 e3 e4 e5 hre ho
  have e3 : n' = ps.length := e3
  subst k' o' n' mn' mx'
  have hask : maskW setS (.mk 4 Re.zero [] ps 0 0) asked = mpW setS (.mk 4 Re.zero [] ps 0 0) := (maskW_own (show ¬ mlev (.mk 4 Re.zero [] ps 0 0) < asked from Nat.not_lt.2 ha)).1
  rw [show mpW setS (.mk 4 Re.zero [] ps 0 0) = mpartsW setS [32, 124, 32] 1 ps from by rw [mpW]; rfl] at hask
  have HFW := hid hFw
  have HO := hid ho
  unfold maxLen at hlen
  have HB0 := hid ((Below.refl w.heap.size w).alloc (Nat.le_refl _) (.cells (Mw.cs ⟨4, yr, [], ad, ps.length, cap, 0, 0⟩) 36))
  have hblk : (w.alloc (.cells (Mw.cs ⟨4, yr, [], ad, ps.length, cap, 0, 0⟩) 36)).heap[w.heap.size]? = some (.cells (Mw.cs ⟨4, yr, [], ad, ps.length, cap, 0, 0⟩) 36 (0, 0)) := heap_alloc_new _ _
  have hsz0 : (w.alloc (.cells (Mw.cs ⟨4, yr, [], ad, ps.length, cap, 0, 0⟩) 36)).heap.size = w.heap.size + 1 := by simp
  have HBK := hid hblk
  obtain ⟨c0, c1, c2, c3, c4, c5, c6, c7, c8, c9, c10, c11, c12, c13⟩ := fourteen_of hblk
  have hlv := mlevelR_any ⟨4, yr, [], ad, ps.length, cap, 0, 0⟩ (w.alloc (.cells (Mw.cs ⟨4, yr, [], ad, ps.length, cap, 0, 0⟩) 36))
  dsimp only at hlv
  have HASK := hid hask
  have hk : ((mlevK 4 : Nat) : Int) = 0 := rfl
  rw [hk] at hlv
  obtain ⟨ask, hak⟩ : ∃ ask : Int, ask = (asked : Int) := ⟨_, rfl⟩
  have hlt0 : ¬ ((0 : Int) < ask) := by omega
  rw [← hak]
  clear h hFw ho hblk hask hak ha
  have HPS := hid hps
  have HL := hid hL
  clear hps hL hk hre
  go_enter Tryz.func93, Tryz.ntmps93
  go_upto_region 1 with fail
  generalize w.alloc (.cells (Mw.cs ⟨4, yr, [], ad, ps.length, cap, 0, 0⟩) 36) = W0 at *
  go_upto_region 3 with (go_at_call 91; refine hlv.mono ?_; clear hlv; rintro e W1 ⟨rfl, hb1⟩; have HB1 := hid (HB0.out.trans (hb1.mono (by omega))); have HBK1 := hid ((hb1.block w.heap.size (by omega)).trans HBK.out); have HS1 := hid hb1.size; clear hb1 c0 c1 c2 c3 c4 c5 c6 c7 c8 c9 c10 c11 c12 c13)
  have hsz1 : w.heap.size + 1 ≤ W1.heap.size := by have := HS1.out; omega
  go_wp2
  go_loopw [5, 6] (fun vo vi wr => ∃ i : Nat, i ≤ ps.length ∧ vi = .int .i64 i ∧ vo = .string ⟨(mpartsW setS [32, 124, 32] 1 (ps.take i)).toArray⟩ ∧ Hid (Below (w.heap.size + 1) W1 wr)) (fun _ vi _ => ps.length - (RowKit.intOf vi).toNat)
  case atStart => exact ⟨0, Nat.zero_le _, rfl, by rw [List.take_zero, mpartsW], hid (Below.refl _ _)⟩
  case round =>
    obtain ⟨i, hi, rfl, rfl, HB⟩ := hrel
    have hwr : Below w.heap.size w wr := HB1.out.trans (HB.out.mono (by omega))
    have hsz : w.heap.size + 1 ≤ wr.heap.size := Nat.le_trans hsz1 HB.out.size
    have hbk := (HB.out.block w.heap.size (by omega)).trans HBK1.out
    obtain ⟨c0, c1, c2, c3, c4, c5, c6, c7, c8, c9, c10, c11, c12, c13⟩ := fourteen_of hbk
    by_cases hlt : i < ps.length
    · have hgi : (i : Int) < (ps.length : Int) := by omega
      obtain ⟨g, off, rfl, hgF, hparts⟩ := HO.out (by rintro rfl; simp at hlt)
      obtain ⟨z, hr1, hc⟩ := hparts.at (List.getElem?_eq_getElem hlt)
      obtain ⟨a0, a1, a2, a3, a4, a5, a6, a7, a8, a9, a10, a11, a12, a13⟩ := elem14_of (W := wr) (g := g) (o := off + i * 14) (y := z) fun j v hv => (hwr.cell (p := ⟨g, off + i * 14 + j, none⟩) (HFW.out g hgF)).trans (hc j v hv)
      have hb2 : Below w.heap.size w (wr.alloc (.cells z.cs 36)) := hwr.alloc (by omega) _
      have hbx2 : (wr.alloc (.cells z.cs 36)).heap[wr.heap.size]? = some (.cells z.cs 36 (0, 0)) := heap_alloc_new _ _
      have hcall := HPS.out _ (List.getElem_mem hlt) F _ (wr.alloc (.cells z.cs 36)) (fun g hg => by have := HFW.out g hg; simp; omega) (hr1.below HFW.out hb2)
      have HBX2 := hid hbx2
      have HB2 := hid (HB.out.trans ((Below.refl (w.heap.size + 1) wr).alloc hsz (.cells z.cs 36)))
      have HSNOC := hid (show mpartsW setS [32, 124, 32] 1 (ps.take (i + 1)) = mpartsW setS [32, 124, 32] 1 (ps.take i) ++ ((if ps.take i = [] then [] else [32, 124, 32]) ++ maskW setS ps[i] 1) by rw [take_snoc hlt, mpartsW_snoc])
      have HLE := hid (mpartsW_le [32, 124, 32] 1 ps (i + 1))
      have HTZ := hid (show ps.take i = [] ↔ i = 0 from ⟨fun h => by have := congrArg List.length h; rw [List.length_take, List.length_nil] at this; omega, fun h => by rw [h, List.take_zero]⟩)
      have hz2 : (wr.alloc (.cells z.cs 36)).heap.size = wr.heap.size + 1 := by simp
      have hbk2 : (wr.alloc (.cells z.cs 36)).heap[w.heap.size]? = _ := (alloc_old (lt_of_heap hbk)).trans hbk
      clear hparts hc hr1 hb2 hbk
      go_upto_region 8 with fail
      generalize wr.alloc (.cells z.cs 36) = W2 at *
      clear c0 c1 c2 c3 c4 c5 c6 c7 c8 c9 c10 c11 c12 c13 a0 a1 a2 a3 a4 a5 a6 a7 a8 a9 a10 a11 a12 a13
      obtain ⟨c0, c1, c2, c3, c4, c5, c6, c7, c8, c9, c10, c11, c12, c13⟩ := fourteen_of hbk2
      obtain ⟨a0, a1, a2, a3, a4, a5, a6, a7, a8, a9, a10, a11, a12, a13⟩ := four10_of HBX2.out
      clear hbk2
      generalize hA : mpartsW setS [32, 124, 32] 1 (ps.take i) = A at *
      generalize hX : maskW setS ps[i] 1 = X at *
      have HLEN := hid (show A.length + 3 + X.length ≤ 1099511627776 + 3 by
        have h1 := HLE.out
        have h2 := HL.out
        rw [HSNOC.out] at h1
        simp only [List.length_append] at h1
        omega)
      by_cases hi0 : i = 0
      · have HNEW := hid (show mpartsW setS [32, 124, 32] 1 (ps.take (i + 1)) = A ++ X by rw [HSNOC.out, if_pos (HTZ.out.2 hi0), List.nil_append])
        have hadd := add_str A X (by have := HLEN.out; omega)
        have hi0' : ¬ ((0 : Int) < (i : Int)) := by omega
        clear hA hX hi0
        go_wp2_with (go_at_call 93; refine hcall.mono ?_; clear hcall; rintro e W3 ⟨rfl, hb3⟩; have HB3 := hid (HB2.out.trans (hb3.mono (by omega))); clear hb3 c0 c1 c2 c3 c4 c5 c6 c7 c8 c9 c10 c11 c12 c13)
        go_roundw
        case rel => exact ⟨i + 1, by omega, by go_num, by rw [HNEW.out], HB3⟩
        case measure => simp [RowKit.intOf]; omega
      · have HNEW := hid (show mpartsW setS [32, 124, 32] 1 (ps.take (i + 1)) = A ++ 32 :: 124 :: 32 :: X by rw [HSNOC.out, if_neg (fun h => hi0 (HTZ.out.1 h))]; rfl)
        have hi0' : (0 : Int) < (i : Int) := by omega
        have hadd1 := add_str A [32, 124, 32] (by have := HLEN.out; simp only [List.length_cons, List.length_nil]; omega)
        have hadd2 := add_cons (A ++ [32, 124, 32]) X (A ++ 32 :: 124 :: 32 :: X) (by simp) (by have := HLEN.out; simp only [List.length_append, List.length_cons, List.length_nil]; omega)
        clear hA hX hi0
        go_wp2_with (go_at_call 93; refine hcall.mono ?_; clear hcall; rintro e W3 ⟨rfl, hb3⟩; have HB3 := hid (HB2.out.trans (hb3.mono (by omega))); clear hb3 c0 c1 c2 c3 c4 c5 c6 c7 c8 c9 c10 c11 c12 c13)
        go_roundw
        case rel => exact ⟨i + 1, by omega, by go_num, by rw [HNEW.out], HB3⟩
        case measure => simp [RowKit.intOf]; omega
    · obtain rfl : i = ps.length := by omega
      clear hlt hbk
      go_wp2
      go_ret
      rw [HASK.out, List.take_length]
      exact ⟨rfl, hwr⟩
set_option maxRecDepth 100000 in
set_option maxHeartbeats 4000000 in
theorem mp_cat {ps : List Mp} {asked : Nat} (hps : ∀ p ∈ ps, MpAt p 2) (hL : (mpartsW setS [32] 2 ps).length ≤ 1099511627776) (ha : asked ≤ 1) : MpAt (.mk 3 Re.zero [] ps 0 0) asked := by
  intro F y w hFw h
  obtain ⟨e1, e2, e3, e4, e5, hre, hlen, ho⟩ := h.open
  obtain ⟨k', yr, o', ad, n', cap, mn', mx'⟩ := y
  dsimp only at e1 e2 e3 e4 e5 hre ho
  have e3 : n' = ps.length := e3
  subst k' o' n' mn' mx'
  have hask : maskW setS (.mk 3 Re.zero [] ps 0 0) asked = mpW setS (.mk 3 Re.zero [] ps 0 0) := (maskW_own (show ¬ mlev (.mk 3 Re.zero [] ps 0 0) < asked from Nat.not_lt.2 ha)).1
  rw [show mpW setS (.mk 3 Re.zero [] ps 0 0) = mpartsW setS [32] 2 ps from by rw [mpW]; rfl] at hask
  have HFW := hid hFw
  have HO := hid ho
  unfold maxLen at hlen
  have HB0 := hid ((Below.refl w.heap.size w).alloc (Nat.le_refl _) (.cells (Mw.cs ⟨3, yr, [], ad, ps.length, cap, 0, 0⟩) 36))
  have hblk : (w.alloc (.cells (Mw.cs ⟨3, yr, [], ad, ps.length, cap, 0, 0⟩) 36)).heap[w.heap.size]? = some (.cells (Mw.cs ⟨3, yr, [], ad, ps.length, cap, 0, 0⟩) 36 (0, 0)) := heap_alloc_new _ _
  have hsz0 : (w.alloc (.cells (Mw.cs ⟨3, yr, [], ad, ps.length, cap, 0, 0⟩) 36)).heap.size = w.heap.size + 1 := by simp
  have HBK := hid hblk
  obtain ⟨c0, c1, c2, c3, c4, c5, c6, c7, c8, c9, c10, c11, c12, c13⟩ := fourteen_of hblk
  have hlv := mlevelR_any ⟨3, yr, [], ad, ps.length, cap, 0, 0⟩ (w.alloc (.cells (Mw.cs ⟨3, yr, [], ad, ps.length, cap, 0, 0⟩) 36))
  dsimp only at hlv
  have HASK := hid hask
  have hk : ((mlevK 3 : Nat) : Int) = 1 := rfl
  rw [hk] at hlv
  obtain ⟨ask, hak⟩ : ∃ ask : Int, ask = (asked : Int) := ⟨_, rfl⟩
  have hlt0 : ¬ ((1 : Int) < ask) := by omega
  rw [← hak]
  clear h hFw ho hblk hask hak ha
  have HPS := hid hps
  have HL := hid hL
  clear hps hL hk hre
  go_enter Tryz.func93, Tryz.ntmps93
  go_upto_region 1 with fail
  generalize w.alloc (.cells (Mw.cs ⟨3, yr, [], ad, ps.length, cap, 0, 0⟩) 36) = W0 at *
  go_upto_region 3 with (go_at_call 91; refine hlv.mono ?_; clear hlv; rintro e W1 ⟨rfl, hb1⟩; have HB1 := hid (HB0.out.trans (hb1.mono (by omega))); have HBK1 := hid ((hb1.block w.heap.size (by omega)).trans HBK.out); have HS1 := hid hb1.size; clear hb1 c0 c1 c2 c3 c4 c5 c6 c7 c8 c9 c10 c11 c12 c13)
  have hsz1 : w.heap.size + 1 ≤ W1.heap.size := by have := HS1.out; omega
  go_wp2
  go_loopw [5, 6] (fun vo vi wr => ∃ i : Nat, i ≤ ps.length ∧ vi = .int .i64 i ∧ vo = .string ⟨(mpartsW setS [32] 2 (ps.take i)).toArray⟩ ∧ Hid (Below (w.heap.size + 1) W1 wr)) (fun _ vi _ => ps.length - (RowKit.intOf vi).toNat)
  case atStart => exact ⟨0, Nat.zero_le _, rfl, by rw [List.take_zero, mpartsW], hid (Below.refl _ _)⟩
  case round =>
    obtain ⟨i, hi, rfl, rfl, HB⟩ := hrel
    have hwr : Below w.heap.size w wr := HB1.out.trans (HB.out.mono (by omega))
    have hsz : w.heap.size + 1 ≤ wr.heap.size := Nat.le_trans hsz1 HB.out.size
    have hbk := (HB.out.block w.heap.size (by omega)).trans HBK1.out
    obtain ⟨c0, c1, c2, c3, c4, c5, c6, c7, c8, c9, c10, c11, c12, c13⟩ := fourteen_of hbk
    by_cases hlt : i < ps.length
    · have hgi : (i : Int) < (ps.length : Int) := by omega
      obtain ⟨g, off, rfl, hgF, hparts⟩ := HO.out (by rintro rfl; simp at hlt)
      obtain ⟨z, hr1, hc⟩ := hparts.at (List.getElem?_eq_getElem hlt)
      obtain ⟨a0, a1, a2, a3, a4, a5, a6, a7, a8, a9, a10, a11, a12, a13⟩ := elem14_of (W := wr) (g := g) (o := off + i * 14) (y := z) fun j v hv => (hwr.cell (p := ⟨g, off + i * 14 + j, none⟩) (HFW.out g hgF)).trans (hc j v hv)
      have hb2 : Below w.heap.size w (wr.alloc (.cells z.cs 36)) := hwr.alloc (by omega) _
      have hbx2 : (wr.alloc (.cells z.cs 36)).heap[wr.heap.size]? = some (.cells z.cs 36 (0, 0)) := heap_alloc_new _ _
      have hcall := HPS.out _ (List.getElem_mem hlt) F _ (wr.alloc (.cells z.cs 36)) (fun g hg => by have := HFW.out g hg; simp; omega) (hr1.below HFW.out hb2)
      have HBX2 := hid hbx2
      have HB2 := hid (HB.out.trans ((Below.refl (w.heap.size + 1) wr).alloc hsz (.cells z.cs 36)))
      have HSNOC := hid (show mpartsW setS [32] 2 (ps.take (i + 1)) = mpartsW setS [32] 2 (ps.take i) ++ ((if ps.take i = [] then [] else [32]) ++ maskW setS ps[i] 2) by rw [take_snoc hlt, mpartsW_snoc])
      have HLE := hid (mpartsW_le [32] 2 ps (i + 1))
      have HTZ := hid (show ps.take i = [] ↔ i = 0 from ⟨fun h => by have := congrArg List.length h; rw [List.length_take, List.length_nil] at this; omega, fun h => by rw [h, List.take_zero]⟩)
      have hz2 : (wr.alloc (.cells z.cs 36)).heap.size = wr.heap.size + 1 := by simp
      have hbk2 : (wr.alloc (.cells z.cs 36)).heap[w.heap.size]? = _ := (alloc_old (lt_of_heap hbk)).trans hbk
      clear hparts hc hr1 hb2 hbk
      go_upto_region 8 with fail
      generalize wr.alloc (.cells z.cs 36) = W2 at *
      clear c0 c1 c2 c3 c4 c5 c6 c7 c8 c9 c10 c11 c12 c13 a0 a1 a2 a3 a4 a5 a6 a7 a8 a9 a10 a11 a12 a13
      obtain ⟨c0, c1, c2, c3, c4, c5, c6, c7, c8, c9, c10, c11, c12, c13⟩ := fourteen_of hbk2
      obtain ⟨a0, a1, a2, a3, a4, a5, a6, a7, a8, a9, a10, a11, a12, a13⟩ := four10_of HBX2.out
      clear hbk2
      generalize hA : mpartsW setS [32] 2 (ps.take i) = A at *
      generalize hX : maskW setS ps[i] 2 = X at *
      have HLEN := hid (show A.length + 1 + X.length ≤ 1099511627776 + 1 by
        have h1 := HLE.out
        have h2 := HL.out
        rw [HSNOC.out] at h1
        simp only [List.length_append] at h1
        omega)
      by_cases hi0 : i = 0
      · have HNEW := hid (show mpartsW setS [32] 2 (ps.take (i + 1)) = A ++ X by rw [HSNOC.out, if_pos (HTZ.out.2 hi0), List.nil_append])
        have hadd := add_str A X (by have := HLEN.out; omega)
        have hi0' : ¬ ((0 : Int) < (i : Int)) := by omega
        clear hA hX hi0
        go_wp2_with (go_at_call 93; refine hcall.mono ?_; clear hcall; rintro e W3 ⟨rfl, hb3⟩; have HB3 := hid (HB2.out.trans (hb3.mono (by omega))); clear hb3 c0 c1 c2 c3 c4 c5 c6 c7 c8 c9 c10 c11 c12 c13)
        go_roundw
        case rel => exact ⟨i + 1, by omega, by go_num, by rw [HNEW.out], HB3⟩
        case measure => simp [RowKit.intOf]; omega
      · have HNEW := hid (show mpartsW setS [32] 2 (ps.take (i + 1)) = A ++ 32 :: X by rw [HSNOC.out, if_neg (fun h => hi0 (HTZ.out.1 h))]; rfl)
        have hi0' : (0 : Int) < (i : Int) := by omega
        have hadd1 := add_str A [32] (by have := HLEN.out; simp only [List.length_cons, List.length_nil]; omega)
        have hadd2 := add_cons (A ++ [32]) X (A ++ 32 :: X) (by simp) (by have := HLEN.out; simp only [List.length_append, List.length_cons, List.length_nil]; omega)
        clear hA hX hi0
        go_wp2_with (go_at_call 93; refine hcall.mono ?_; clear hcall; rintro e W3 ⟨rfl, hb3⟩; have HB3 := hid (HB2.out.trans (hb3.mono (by omega))); clear hb3 c0 c1 c2 c3 c4 c5 c6 c7 c8 c9 c10 c11 c12 c13)
        go_roundw
        case rel => exact ⟨i + 1, by omega, by go_num, by rw [HNEW.out], HB3⟩
        case measure => simp [RowKit.intOf]; omega
    · obtain rfl : i = ps.length := by omega
      clear hlt hbk
      go_wp2
      go_ret
      rw [HASK.out, List.take_length]
      exact ⟨rfl, hwr⟩
theorem mtailW_mem {sep : List B} {q : Nat} : ∀ {l : List Mp} {p : Mp}, p ∈ l → (mpW setS p).length ≤ (mtailW setS sep q l).length
  | r :: l, p, h => by
    rw [mtailW]
    simp only [List.length_append]
    rcases List.mem_cons.1 h with rfl | h
    · split <;> (first | omega | (simp only [List.length_cons, List.length_append, List.length_nil]; omega))
    · have := mtailW_mem (sep := sep) (q := q) h
      omega
theorem mpartsW_mem {sep : List B} {q : Nat} {l : List Mp} {p : Mp} (h : p ∈ l) : (mpW setS p).length ≤ (mpartsW setS sep q l).length := by
  rcases l with _ | ⟨r, l⟩
  · cases h
  · rw [mpartsW]
    simp only [List.length_append]
    rcases List.mem_cons.1 h with rfl | h
    · split <;> (first | omega | (simp only [List.length_cons, List.length_append, List.length_nil]; omega))
    · have := mtailW_mem (sep := sep) (q := q) h
      omega
theorem mone_of {l : List Mp} (h : l.length = 1) : ∃ p, l = [p] := by
  rcases l with _ | ⟨p, _ | ⟨q, l⟩⟩
  · simp at h
  · exact ⟨p, rfl⟩
  · simp at h
theorem leaf_re {r : Re} (hr : LeafR r) (hs : SeRe r) (hl : (leafOf setS r).length ≤ 1000000000) : ReAt r 0 ∧ askW setS r 0 = leafOf setS r := by
  obtain ⟨k, x, s, hn, hk⟩ := hr
  have e : reW setS (.mk k x s [] 0 0) = leafOf setS (.mk k x s [] 0 0) := by
    rw [reW]
    rcases hk with rfl | rfl | rfl <;> rfl
  have ho : OkRe 1 (.mk k x s [] 0 0) := by
    unfold OkRe
    exact ⟨hn, fun p hp => by cases hp⟩
  exact ⟨reR_any 1 _ ho hs (by rw [e]; exact hl) 0 (by omega), (askW_own (by omega)).1.trans e⟩
theorem mpR_any : ∀ (h : Nat) (r : Mp), OkMp h r → SeMp r → (mpW setS r).length ≤ 1000000000 → ∀ asked, asked ≤ 3 → MpAt r asked
  | 0, r, hr, _, _ => by simp [OkMp] at hr
  | h + 1, .mk k x s ps mn mx, hr, hs, hL => by
    have hr' : MNode k x s ps.length mn mx ∧ ∀ p ∈ ps, OkMp h p := by simpa [OkMp] using hr
    obtain ⟨hn, hp⟩ := hr'
    have key : ∀ asked, asked ≤ mlevK k → MpAt (.mk k x s ps mn mx) asked := by
      intro asked ha
      have hse := hs.re
      have ihs : ∀ p ∈ ps, SeMp p := fun p hp => hs.part hp
      have ih : ∀ p ∈ ps, (mpW setS p).length ≤ 1000000000 → ∀ asked, asked ≤ 3 → MpAt p asked := fun p hpp hl => mpR_any h p (hp p hpp) (ihs p hpp) hl
      have part : ∀ sep q, (mpartsW setS sep q ps).length ≤ 1000000000 → ∀ p ∈ ps, (mpW setS p).length ≤ 1000000000 := fun sep q hq p hpp => Nat.le_trans (mpartsW_mem hpp) hq
      clear hr hp hs
      rw [mpW] at hL
      generalize hl : ps.length = n at hn
      cases hn with
      | same r h =>
        obtain rfl := List.length_eq_zero_iff.1 hl
        have hL' : (leafOf setS x ++ []).length ≤ 1000000000 := hL
        rw [List.append_nil] at hL'
        obtain ⟨h1, h2⟩ := leaf_re h hse hL'
        exact mp_same h1 h2 ha
      | out r o h ho =>
        obtain rfl := List.length_eq_zero_iff.1 hl
        have hL' : (leafOf setS x ++ 58 :: textW s).length ≤ 1000000000 := hL
        have hL2 : (leafOf setS x).length ≤ 1000000000 := by rw [List.length_append] at hL'; omega
        obtain ⟨h1, h2⟩ := leaf_re h hse hL2
        exact mp_out h1 h2 hL2 ho ha
      | cat n h =>
        have hL' : (mpartsW setS [32] 2 ps).length ≤ 1000000000 := hL
        exact mp_cat (fun p hp => ih p hp (part _ _ hL' p hp) 2 (by omega)) (by omega) ha
      | alt n h =>
        have hL' : (mpartsW setS [32, 124, 32] 1 ps).length ≤ 1000000000 := hL
        exact mp_alt (fun p hp => ih p hp (part _ _ hL' p hp) 1 (by omega)) (by omega) ha
      | rep a b h =>
        obtain ⟨p, rfl⟩ := mone_of hl
        have hL' : (mpartsW setS [] 3 [p] ++ oftenW mn mx).length ≤ 1000000000 := hL
        have hq : (mpartsW setS [] 3 [p]).length ≤ 1000000000 := by rw [List.length_append] at hL'; omega
        have hq2 := hq
        rw [mpartsW_one] at hq2
        exact mp_rep (ih p List.mem_cons_self (part _ _ hq p List.mem_cons_self) 3 (by omega)) (by unfold oftOk; rcases h with h | h | h <;> simp [h]) (by omega) ha
    intro asked ha
    by_cases hlt : mlevK k < asked
    · exact mp_bracket (key 0 (Nat.zero_le _)) hlt (by omega)
    · exact key asked (by omega)
end Go.Proofs.YtfljcfdfgojdoaaGreatDoor.Sh.Rf
