/-
  The closures that write a map: a leaf.
  The closures that write a map: brackets; the contract of mapping.
-/
import Derived.Test.YtfljcfdfgojdoaaGreatDoorAa34
namespace Go.Proofs.YtfljcfdfgojdoaaGreatDoor.Sh
open Go.RowKit Go.Lib Go.Proofs.YtfljcfdfgojdoaaGreatDoor

theorem SW.drew {P : Nat} {w : World} {d m : Nat} {l : List B} (h : SW P w d m l) : SW P w.drew d m l := by
  obtain ⟨v, h1, h2⟩ := h
  exact ⟨v, h1, h2⟩
theorem textW_len (l : List B) : (textW l).length ≤ 4 * l.length + 2 := by
  unfold textW
  have : (l.flatMap escB).length ≤ 4 * l.length := by
    induction l with
    | nil => simp
    | cons c l ih =>
      rw [List.flatMap_cons, List.length_append, List.length_cons]
      have := esc_len c
      omega
  simp only [List.length_cons, List.length_append, List.length_nil]
  omega
theorem leafr_any {F : Nat → Prop} {w : World} {r : Re} {y : Rw} (h : LeafR r) (hs : SeRe r) (hG : ReG F w r y.cs) (W : World) : Calls Tryz.prog 103 #[.agg y.cs] W (StrPost (leafOf setS r) W) := by
  obtain ⟨k, x, s, hn, hk⟩ := h
  obtain ⟨ad, cap, e, _, _⟩ := hG.open
  rw [e]
  exact leaf_any _ 0 0 W hk hs.set (Node.short hn)
set_option maxRecDepth 100000 in
set_option maxHeartbeats 1000000 in
theorem mpart_leaf {P Bw Bp Bj : Nat} {k : Int} {r : Re} {o : List B} (hn : MNode k r o 0 0 0) (hk : k = 1 ∨ k = 2) (hs : SeRe r) {asked : Nat} (ha : asked ≤ 3) : MPartOk P Bw Bp Bj (.mk k r o [] 0 0) asked := by
  intro y w d m l hr hE hW hdm hD hm hL
  obtain ⟨y1, y2, y3, y4, y5, y6, hlen, hps⟩ := hr.open
  have hlv : ¬ mlev (.mk k r o [] 0 0) < asked := by
    show ¬ mlevK k < asked
    rcases hk with rfl | rfl <;> exact Nat.not_lt.2 ha
  obtain ⟨e1, e2⟩ := maskW_own hlv
  have e3 : mpW setS (.mk k r o [] 0 0) = leafOf setS r ++ (if k = 2 then 58 :: textW o else []) := by
    rw [mpW]
    rcases hk with rfl | rfl <;> rfl
  have e4 : mpD (.mk k r o [] 0 0) = 0 := by rw [mpD, mpartsD]
  rw [e1, e3] at hL
  rw [e1, e2, e3, e4, Nat.add_zero, Nat.max_eq_left hdm]
  have hleaf : LeafR r := by cases hn <;> first | assumption | (rcases hk with h | h <;> cases h)
  have ho : o.length ≤ 256 := by cases hn <;> first | assumption | (simp; done) | (rcases hk with h | h <;> cases h)
  have hlf := leafr_any hleaf hs y6
  have hlv2 : ((mlevK k : Nat) : Int) = 3 := by rcases hk with rfl | rfl <;> rfl
  have ha' : ¬ ((3 : Int) < (asked : Int)) := by omega
  have hlev := mlevel_any y
  rw [y1, hlv2] at hlev
  have HW := hid hW
  have HE := hid hE
  have hPw := hW.lt
  have HU0 := hid ((Upd.refl P w).alloc (.cells y.cs 36))
  have HW0 := hid (hW.alloc (.cells y.cs 36))
  have hb0 : (w.alloc (.cells y.cs 36)).heap[w.heap.size]? = some (.cells y.cs 36 (0, 0)) := heap_alloc_new _ _
  have HFACT := hid (show ∀ W : World, Upd P (w.alloc (.cells y.cs 36)) W → Four10 W w.heap.size y ∧ W.cell? ⟨Bw, 0, none⟩ = some (ptrV P) ∧ W.cell? ⟨w.heap.size, 0, none⟩ = some (.int .i64 k) from fun W hu => by
    have hf := four10_of (hu.row hb0 (by decide) (by omega))
    have d0 := hf.1
    rw [y1] at d0
    exact ⟨hf, cell_blk (HE.out.upd (HU0.out.trans hu)).bw rfl, d0⟩)
  obtain ⟨⟨z0, c1, c2, c3, c4, c5, c6, c7, c8, c9, c10, c11, c12, c13⟩, cw, c0⟩ := HFACT.out _ (Upd.refl _ _)
  have hyo := hid (show y.o = o from y2)
  have HSZ := hid (show l.length + (leafOf setS r).length ≤ 1099511627776 ∧ (leafOf setS r).length ≤ 1099511627776 from by rw [List.length_append] at hL; exact ⟨by omega, by omega⟩)
  clear hr hE hW hlv e1 e2 e3 e4 hb0 hps hlen c0 y1 y2 y3 y4 y5 y6 hs hn hD hlv2 hleaf
  go_enter Tryz.func113, Tryz.ntmps113
  go_upto_region 1 with fail
  generalize w.alloc (.cells y.cs 36) = W0 at *
  generalize leafOf setS r = X at *
  have hk4 : (k == 4) = false := by rcases hk with rfl | rfl <;> rfl
  have hk3 : (k == 3) = false := by rcases hk with rfl | rfl <;> rfl
  have hk5 : (k == 5) = false := by rcases hk with rfl | rfl <;> rfl
  have HKK := hid hk
  clear hk
  go_upto_region 4 with (go_at_call 114; refine (hlev _).mono ?_; clear hlev; rintro e W1 ⟨rfl, hb1⟩; have HU1 := hid (Upd.below (Upd.refl P W0) hb1); have HW1 := hid (HW0.out.below hb1); clear hb1 z0 c1 c2 c3 c4 c5 c6 c7 c8 c9 c10 c11 c12 c13 cw; obtain ⟨⟨z0, c1, c2, c3, c4, c5, c6, c7, c8, c9, c10, c11, c12, c13⟩, cw, c0⟩ := HFACT.out _ HU1.out; clear z0)
  have HFQ := hid (show ∀ W : World, Upd P W0 W → W.cell? ⟨Bw, 0, none⟩ = some (ptrV P) ∧ W.cell? ⟨w.heap.size, 1, none⟩ = some (.int .i64 y.r.k) ∧ W.cell? ⟨w.heap.size, 2, none⟩ = some (.string ⟨y.r.x.toArray⟩) ∧ W.cell? ⟨w.heap.size, 3, none⟩ = some (.int .u64 y.r.s.a) ∧ W.cell? ⟨w.heap.size, 4, none⟩ = some (.int .u64 y.r.s.b) ∧ W.cell? ⟨w.heap.size, 5, none⟩ = some (.int .u64 y.r.s.c) ∧ W.cell? ⟨w.heap.size, 6, none⟩ = some (.int .u64 y.r.s.d) ∧ W.cell? ⟨w.heap.size, 7, none⟩ = some (.slice y.r.ad y.r.n y.r.cap) ∧ W.cell? ⟨w.heap.size, 8, none⟩ = some (.int .i64 y.r.mn) ∧ W.cell? ⟨w.heap.size, 9, none⟩ = some (.int .i64 y.r.mx) from fun W h => by
    obtain ⟨⟨_, c1, c2, c3, c4, c5, c6, c7, c8, c9, _⟩, cw, _⟩ := HFACT.out W h
    exact ⟨cw, c1, c2, c3, c4, c5, c6, c7, c8, c9⟩)
  have HUD := hid HU1.out.drew
  have HWD := hid HW1.out.drew
  go_region_held3 (fun W => W.cell? ⟨Bw, 0, none⟩ = some (ptrV P) ∧ W.cell? ⟨w.heap.size, 1, none⟩ = some (.int .i64 y.r.k) ∧ W.cell? ⟨w.heap.size, 2, none⟩ = some (.string ⟨y.r.x.toArray⟩) ∧ W.cell? ⟨w.heap.size, 3, none⟩ = some (.int .u64 y.r.s.a) ∧ W.cell? ⟨w.heap.size, 4, none⟩ = some (.int .u64 y.r.s.b) ∧ W.cell? ⟨w.heap.size, 5, none⟩ = some (.int .u64 y.r.s.c) ∧ W.cell? ⟨w.heap.size, 6, none⟩ = some (.int .u64 y.r.s.d) ∧ W.cell? ⟨w.heap.size, 7, none⟩ = some (.slice y.r.ad y.r.n y.r.cap) ∧ W.cell? ⟨w.heap.size, 8, none⟩ = some (.int .i64 y.r.mn) ∧ W.cell? ⟨w.heap.size, 9, none⟩ = some (.int .i64 y.r.mx)) (first | exact HFQ.out _ HU3.out | exact HFQ.out _ HU2.out | exact HFQ.out _ HUD.out | exact HFQ.out _ HU1.out)
    ((first | (go_at_call 103; refine (hlf _).mono ?_; clear hlf; rintro e W2 ⟨rfl, hb2⟩; have HU2 := hid (Upd.below HUD.out hb2); have HW2 := hid (HWD.out.below hb2); clear hb2) | (go_at_call 86; refine (put_any ⟨X.toArray⟩ HW2.out (by rw [str_size]; have := HSZ.out; omega)).mono ?_; rintro e W3 ⟨rfl, hw3, hu3⟩; have HU3 := hid (HU2.out.trans hu3); have HW3 := hid hw3; clear hu3 hw3)))
  clear c0 c1 c2 c3 c4 c5 c6 c7 c8 c9 c10 c11 c12 c13 cw
  obtain ⟨⟨z0, c1, c2, c3, c4, c5, c6, c7, c8, c9, c10, c11, c12, c13⟩, cw, c0⟩ := HFACT.out _ HU3.out
  clear z0
  have hk := HKK.out
  clear HKK
  rcases hk with rfl | rfl
  · go_wp2
    go_end0
    exact ⟨rfl, by simpa using HW3.out, HU0.out.trans HU3.out⟩
  · rw [hyo.out] at c10
    go_upto_region 6 with fail
    have htx := text2_any ⟨o.toArray⟩ (by rw [str_size]; omega)
    have htl := textW_len o
    have hts : (⟨(textW o).toArray⟩ : ByteArray).size ≤ 2000 := by rw [str_size]; omega
    have hadd : ∀ W : World, (Op.stringOp .add ⟨#[58]⟩ ⟨(textW o).toArray⟩).run Tryz.prog W = .ok (.string ⟨(58 :: textW o).toArray⟩) W := fun W => by
      rw [run_string_add_sum W _ _ (by have : (⟨#[58]⟩ : ByteArray).size = 1 := rfl; omega), show (⟨#[58]⟩ : ByteArray) ++ ⟨(textW o).toArray⟩ = ⟨(58 :: textW o).toArray⟩ from cat_str [58] (textW o)]
    have HFQ2 := hid (show ∀ W : World, Upd P W0 W → W.cell? ⟨Bw, 0, none⟩ = some (ptrV P) ∧ W.cell? ⟨w.heap.size, 10, none⟩ = some (.string ⟨o.toArray⟩) from fun W h => by
      obtain ⟨⟨_, _, _, _, _, _, _, _, _, _, c10, _⟩, cw, _⟩ := HFACT.out W h
      rw [hyo.out] at c10
      exact ⟨cw, c10⟩)
    have HUE := hid HU3.out.drew
    have HWE := hid HW3.out.drew
    have HTO := hid (show (⟨o.toArray⟩ : ByteArray).data.toList = o from rfl)
    clear c1 c2 c3 c4 c5 c6 c7 c8 c9 c11 c12 c13
    go_region_held3 (fun W => W.cell? ⟨Bw, 0, none⟩ = some (ptrV P) ∧ W.cell? ⟨w.heap.size, 10, none⟩ = some (.string ⟨o.toArray⟩)) (first | exact HFQ2.out _ HU6.out | exact HFQ2.out _ HU5.out | exact HFQ2.out _ HUE.out | exact HFQ2.out _ HU3.out)
      ((first | (go_at_call 87; refine (htx _).mono ?_; clear htx; rintro e W5 ⟨rfl, hb5⟩; have HU5 := hid (Upd.below HUE.out hb5); have HW5 := hid (HWE.out.below hb5); clear hb5) | (go_at_call 86; refine (put_any ⟨(58 :: textW o).toArray⟩ HW5.out (by rw [str_size]; have := HSZ.out; simp only [List.length_append, List.length_cons]; omega)).mono ?_; rintro e W6 ⟨rfl, hw6, hu6⟩; have HU6 := hid (HU5.out.trans hu6); have HW6 := hid hw6; clear hu6 hw6)))
    all_goals
      go_wp2
      go_end0
      refine ⟨rfl, ?_, HU0.out.trans HU6.out⟩
      rw [← List.append_assoc]
      exact HW6.out
end Go.Proofs.YtfljcfdfgojdoaaGreatDoor.Sh

namespace Go.Proofs.YtfljcfdfgojdoaaGreatDoor.Sh
open Go.RowKit Go.Lib Go.Proofs.YtfljcfdfgojdoaaGreatDoor

set_option maxRecDepth 100000 in
set_option maxHeartbeats 1000000 in
theorem mbracket_any {P Bp Br : Nat} {w : World} {d m M : Nat} {l x : List B} (hW : SW P w d m l) (hd : d ≤ 1000000) (hm : m ≤ 1000000) (hl : l.length + x.length ≤ 2199023255552)
    (H : ∀ W, SW P W (d + 1) (max m (d + 1)) (l ++ [40]) → Upd P w W → Calls Tryz.prog 115 #[ptrV Bp, ptrV Br] W (WPost P W (d + 1) M (l ++ [40] ++ x))) :
    Calls Tryz.prog 98 #[ptrV P, .func (.func 115) #[] #[ptrV Bp, ptrV Br]] w (WPost P w d M (l ++ 40 :: (x ++ [41]))) := by
  have HH := hid H
  clear H
  have hput := put_any ⟨#[40]⟩ hW (by show l.length + 1 ≤ _; omega)
  clear hW
  go_enter Tryz.func98, Tryz.ntmps98
  go_upto_region 1 with (go_at_call 86; refine hput.mono ?_; clear hput; rintro e W1 ⟨rfl, hw1, hu1⟩; have HU1 := hid hu1; have HW1 := hid hw1; clear hu1 hw1)
  have hent := enter_any HW1.out (by omega) (by omega)
  go_upto_region 2 with (go_at_call 100; refine hent.mono ?_; clear hent; rintro e W2 ⟨rfl, hw2, hu2⟩; have HU2 := hid (HU1.out.trans hu2); have HW2 := hid hw2; clear hu2 hw2)
  have hcall := HH.out W2 HW2.out HU2.out
  go_upto_region 3 with (go_at_call 115; refine hcall.mono ?_; clear hcall; rintro e W3 ⟨rfl, hw3, hu3⟩; have HU3 := hid (HU2.out.trans hu3); have HW3 := hid hw3; clear hu3 hw3)
  have hlea := leave_any HW3.out (by omega)
  go_upto_region 4 with (go_at_call 101; refine hlea.mono ?_; clear hlea; rintro e W4 ⟨rfl, hw4, hu4⟩; have HU4 := hid (HU3.out.trans hu4); have HW4 := hid hw4; clear hu4 hw4)
  have hput2 := put_any ⟨#[41]⟩ HW4.out (by simp only [List.length_append, List.length_cons, List.length_nil]; show _ + 1 ≤ _; omega)
  go_wp2_with (go_at_call 86; refine hput2.mono ?_; clear hput2; rintro e W5 ⟨rfl, hw5, hu5⟩)
  go_end0
  refine ⟨rfl, ?_, HU4.out.trans hu5⟩
  rw [show l ++ 40 :: (x ++ [41]) = l ++ [40] ++ x ++ [41] by simp]
  exact hw5
set_option maxRecDepth 100000 in
set_option maxHeartbeats 1000000 in
theorem mpart_br {P Bw Bp Bj : Nat} {r : Mp} (hp : MPartOk P Bw Bp Bj r 0) {asked : Nat} (ha : mlev r < asked) : MPartOk P Bw Bp Bj r asked := by
  intro y w d m l hr hE hW hdm hD hm hL
  have hr0 := hr
  have hyk : mlevK y.k = mlev r := by
    obtain ⟨k, x, s, ps, mn, mx⟩ := r
    have := hr.open.1
    rw [this]; rfl
  obtain ⟨e1, e2⟩ := maskW_own (r := r) (asked := 0) (by omega)
  have e3 : maskW setS r asked = 40 :: (maskW setS r 0 ++ [41]) := by rw [e1]; unfold maskW; rw [if_pos ha]
  have e4 : maskD r asked = maskD r 0 + 1 := by rw [e2]; unfold maskD; rw [if_pos ha]
  rw [e3] at hL
  rw [e4] at hD
  rw [e3, e4]
  have ha' : ((mlev r : Nat) : Int) < (asked : Int) := Int.ofNat_lt.2 ha
  have hlev := mlevel_any y
  rw [hyk] at hlev
  generalize mlev r = lk at *
  have HW := hid hW
  have HE := hid hE
  have hPw := hW.lt
  have HU0 := hid ((Upd.refl P w).alloc (.cells y.cs 36))
  have HW0 := hid (hW.alloc (.cells y.cs 36))
  have hb0 : (w.alloc (.cells y.cs 36)).heap[w.heap.size]? = some (.cells y.cs 36 (0, 0)) := heap_alloc_new _ _
  have HFACT := hid (show ∀ W : World, Upd P (w.alloc (.cells y.cs 36)) W → Four10 W w.heap.size y ∧ W.cell? ⟨Bw, 0, none⟩ = some (ptrV P) ∧ W.cell? ⟨Bp, 0, none⟩ = some (.func (.func 113) #[] #[ptrV Bw, ptrV Bp, ptrV Bj]) from fun W hu =>
    ⟨four10_of (hu.row hb0 (by decide) (by omega)), cell_blk (HE.out.upd (HU0.out.trans hu)).bw rfl, cell_blk (HE.out.upd (HU0.out.trans hu)).bp rfl⟩)
  have HIN := hid (show ∀ W : World, Upd P (w.alloc (.cells y.cs 36)) W → SW P W (d + 1) (max m (d + 1)) (l ++ [40]) → Calls Tryz.prog 115 #[ptrV Bp, ptrV w.heap.size] W (WPost P W (d + 1) (max (max m (d + 1)) (d + 1 + maskD r 0)) (l ++ [40] ++ maskW setS r 0)) from fun W hu hw => by
    obtain ⟨⟨c0, c1, c2, c3, c4, c5, c6, c7, c8, c9, c10, c11, c12, c13⟩, _, cp⟩ := HFACT.out W hu
    have hcall := hp _ W (d + 1) _ _ (hr0.upd (HU0.out.trans hu)) (HE.out.upd (HU0.out.trans hu)) hw (by omega) (by omega) (by omega) (by
      rw [List.length_append]
      simp only [List.length_cons, List.length_nil, List.length_append] at hL ⊢
      omega)
    clear hr hr0 hE hW hp e1 e2 e3 e4 hL hD HFACT HU0 HW0 HE HW hlev hb0 hu hw ha ha' hyk
    go_enter Tryz.func115, Tryz.ntmps115
    go_wp2_with (go_at_call 113; refine hcall.mono ?_; clear hcall; rintro e W1 ⟨rfl, hw1, hu1⟩)
    go_end0
    exact ⟨rfl, hw1, hu1⟩)
  obtain ⟨⟨c0, c1, c2, c3, c4, c5, c6, c7, c8, c9, c10, c11, c12, c13⟩, cw, cp⟩ := HFACT.out _ (Upd.refl _ _)
  have hx : l.length + (maskW setS r 0).length ≤ 1099511627776 := by
    simp only [List.length_cons, List.length_append, List.length_nil] at hL; omega
  clear hr hr0 hE hW hp e1 e2 e3 e4 hb0 hL ha hyk
  generalize maskW setS r 0 = X at *
  generalize maskD r 0 = D at *
  have hdd : d ≤ 1000000 := by omega
  go_enter Tryz.func113, Tryz.ntmps113
  go_upto_region 1 with fail
  generalize w.alloc (.cells y.cs 36) = W0 at *
  go_upto_region 2 with (go_at_call 114; refine (hlev _).mono ?_; clear hlev; rintro e W1 ⟨rfl, hb1⟩; have HU1 := hid (Upd.below (Upd.refl P W0) hb1); have HW1 := hid (HW0.out.below hb1); clear hb1 c0 c1 c2 c3 c4 c5 c6 c7 c8 c9 c10 c11 c12 c13 cw cp; obtain ⟨_, cw, cp⟩ := HFACT.out _ HU1.out)
  have hbr := mbracket_any (Bp := Bp) (Br := w.heap.size) HW1.out hdd hm (by omega) fun W hw hu => HIN.out W (HU1.out.trans hu) hw
  go_wp2_with (go_at_call 98; refine hbr.mono ?_; clear hbr; rintro e W2 ⟨rfl, hw2, hu2⟩)
  go_end0
  refine ⟨rfl, ?_, HU0.out.trans (HU1.out.trans hu2)⟩
  rw [show max m (d + (D + 1)) = max (max m (d + 1)) (d + 1 + D) by omega]
  exact hw2
theorem MNode.oft {r : Re} {o : List B} {n : Nat} {lo hi : Int} (h : MNode 5 r o n lo hi) : oftOk lo hi := by
  generalize hk : (5 : Int) = k at h
  cases h <;> simp at hk
  rename_i h
  rcases h with h | h | ⟨rfl, rfl⟩
  · exact .inl h
  · exact .inr (.inl h)
  · exact .inr (.inr ⟨by decide, by decide, by decide⟩)
theorem mpart_any {P Bw Bp Bj : Nat} : ∀ (h : Nat) (r : Mp), OkMp h r → SeMp r → ∀ asked, asked ≤ 3 → MPartOk P Bw Bp Bj r asked
  | 0, r, hr, _ => by simp [OkMp] at hr
  | h + 1, .mk k r o ps mn mx, hr, hs => by
    have hr' : MNode k r o ps.length mn mx ∧ ∀ p ∈ ps, OkMp h p := by simpa [OkMp] using hr
    obtain ⟨hn, hp⟩ := hr'
    have ih : ∀ p ∈ ps, ∀ asked, asked ≤ 3 → MPartOk P Bw Bp Bj p asked := fun p hpp => mpart_any h p (hp p hpp) (hs.part hpp)
    have hre := hs.re
    clear hr hs hp
    have own : ∀ asked, asked ≤ 3 → ¬ mlevK k < asked → MPartOk P Bw Bp Bj (.mk k r o ps mn mx) asked := by
      intro asked ha hl
      generalize hpl : ps.length = n at hn
      have hleaf : n = 0 → mn = 0 → mx = 0 → (k = 1 ∨ k = 2) → MPartOk P Bw Bp Bj (.mk k r o ps mn mx) asked := fun h0 h1 h2 hk => by
        subst h0 h1 h2
        obtain rfl := List.length_eq_zero_iff.1 hpl
        exact mpart_leaf hn hk hre ha
      cases hn with
      | same r h => exact hleaf rfl rfl rfl (.inl rfl)
      | out r o h ho => exact hleaf rfl rfl rfl (.inr rfl)
      | cat n h => exact mpart_row (.inl rfl) ps (fun p hpp => ih p hpp 2 (by omega)) hl
      | alt n h => exact mpart_row (.inr rfl) ps (fun p hpp => ih p hpp 1 (by omega)) hl
      | rep a b h =>
        obtain ⟨p, rfl⟩ := mone_of hpl
        exact mpart_rep p (MNode.oft (.rep _ _ h)) (ih p List.mem_cons_self 3 (by omega)) hl
    intro asked ha
    by_cases hl : mlevK k < asked
    · exact mpart_br (own 0 (by omega) (by omega)) hl
    · exact own asked ha hl
set_option maxRecDepth 100000 in
set_option maxHeartbeats 1000000 in
theorem mapping_any {P h : Nat} {r : Mp} {y : Mw} {w : World} {d m : Nat} {l : List B} (hr : OkMp h r) (hs : SeMp r) (hG : MpG (fun g => g < P) w r y) (hW : SW P w d m l) (hdm : d ≤ m) (hD : d + mpD r ≤ 1000000) (hm : m ≤ 1000000) (hL : l.length + (mpW setS r).length ≤ 1099511627776) :
    Calls Tryz.prog 56 #[ptrV P, .agg y.cs] w (WPost P w d (max m (d + mpD r)) (l ++ mpW setS r)) := by
  obtain ⟨e1, e2⟩ := maskW_own (r := r) (asked := 0) (by omega)
  rw [← e1] at hL ⊢
  rw [← e2] at hD ⊢
  have HP := hid (mpart_any (P := P) (Bw := w.heap.size) (Bp := w.heap.size + 1 + 1) (Bj := w.heap.size + 1 + 1 + 1) h r hr hs 0 (by omega))
  have HG := hid hG
  have HW := hid hW
  have hPw := hW.lt
  obtain ⟨f0, f1, f2, f3⟩ := four (w := w) (.cells #[ptrV P] 70) (.cells y.cs 36) (.cells #[.nilFunc] 149) (.cells #[.func (.func 112) #[] #[ptrV w.heap.size, ptrV (w.heap.size + 1 + 1)]] 150)
  have HU4 := hid (((((Upd.refl P w).alloc (.cells #[ptrV P] 70)).alloc (.cells y.cs 36)).alloc (.cells #[.nilFunc] 149)).alloc (.cells #[.func (.func 112) #[] #[ptrV w.heap.size, ptrV (w.heap.size + 1 + 1)]] 150))
  have HW4 := hid ((((hW.alloc (.cells #[ptrV P] 70)).alloc (.cells y.cs 36)).alloc (.cells #[.nilFunc] 149)).alloc (.cells #[.func (.func 112) #[] #[ptrV w.heap.size, ptrV (w.heap.size + 1 + 1)]] 150))
  have g2 := cell_blk (i := 0) f2 rfl
  have z2 := free_box (i := 0) f2
  have F0 := hid f0
  have F1 := hid f1
  have F2 := hid f2
  have F3 := hid f3
  clear hG hW hr hs e1 e2 f0 f1 f2 f3
  go_enter Tryz.func56, Tryz.ntmps56
  go_upto_region 3 with fail
  generalize (((w.alloc (.cells #[ptrV P] 70)).alloc (.cells y.cs 36)).alloc (.cells #[.nilFunc] 149)).alloc (.cells #[.func (.func 112) #[] #[ptrV w.heap.size, ptrV (w.heap.size + 1 + 1)]] 150) = W4 at *
  go_upto_region 4 with fail
  have HE := hid (show MEnv P w.heap.size (w.heap.size + 1 + 1) (w.heap.size + 1 + 1 + 1) (W4.setCell ⟨w.heap.size + 1 + 1, 0, none⟩ (.func (.func 113) #[] #[ptrV w.heap.size, ptrV (w.heap.size + 1 + 1), ptrV (w.heap.size + 1 + 1 + 1)])) from
    ⟨(box_other _ (by omega)).trans F0.out, heap_setCell_same _ _ _ _ _ _ F2.out, (box_other _ (by omega)).trans F3.out, by omega, by omega, by omega⟩)
  have HB := hid (show (W4.setCell ⟨w.heap.size + 1 + 1, 0, none⟩ (.func (.func 113) #[] #[ptrV w.heap.size, ptrV (w.heap.size + 1 + 1), ptrV (w.heap.size + 1 + 1 + 1)])).heap[w.heap.size + 1]? = some (.cells y.cs 36 (0, 0)) from (box_other _ (by omega)).trans F1.out)
  have HU5 := hid (show Upd P w (W4.setCell ⟨w.heap.size + 1 + 1, 0, none⟩ (.func (.func 113) #[] #[ptrV w.heap.size, ptrV (w.heap.size + 1 + 1), ptrV (w.heap.size + 1 + 1 + 1)])) from
    ⟨HU4.out.os, HU4.out.tape, HU4.out.output, by simpa using HU4.out.size, fun q hq hp hc => (box_other _ (by omega)).trans (HU4.out.block q hq hp hc)⟩)
  have HW5 := hid (show SW P (W4.setCell ⟨w.heap.size + 1 + 1, 0, none⟩ (.func (.func 113) #[] #[ptrV w.heap.size, ptrV (w.heap.size + 1 + 1), ptrV (w.heap.size + 1 + 1 + 1)])) d m l from by
    obtain ⟨v, h1, h2⟩ := HW4.out
    refine ⟨v, (box_other _ (by omega)).trans h1, ownsRow_same h2 fun q cur hq _ => box_other _ ?_⟩
    rintro rfl
    rw [F2.out] at hq
    cases hq)
  generalize W4.setCell ⟨w.heap.size + 1 + 1, 0, none⟩ (.func (.func 113) #[] #[ptrV w.heap.size, ptrV (w.heap.size + 1 + 1), ptrV (w.heap.size + 1 + 1 + 1)]) = W5 at *
  obtain ⟨c0, c1, c2, c3, c4, c5, c6, c7, c8, c9, c10, c11, c12, c13⟩ := four10_of HB.out
  have cp := cell_blk (i := 0) HE.out.bp rfl
  have hcall := HP.out _ W5 d m l (HG.out.upd HU5.out) HE.out HW5.out hdm hD hm hL
  clear g2 z2
  go_wp2_with (go_at_call 113; refine hcall.mono ?_; clear hcall; rintro e W6 ⟨rfl, hw6, hu6⟩)
  go_end0
  exact ⟨rfl, hw6, HU5.out.trans hu6⟩
end Go.Proofs.YtfljcfdfgojdoaaGreatDoor.Sh
