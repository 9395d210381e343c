/-
  The closures that write a map: join, part.
  The closures that write a map: a leaf, how often, brackets; the contract of mapping.
  The closures that write a map: a leaf.
-/
import Derived.Test.YtfljcfdfgojdoaaGreatDoorFa17
namespace Go.Proofs.YtfljcfdfgojdoaaGreatDoor.Sh
open Go.RowKit Go.Lib Go.Proofs.YtfljcfdfgojdoaaGreatDoor

set_option maxRecDepth 100000 in
set_option maxHeartbeats 1000000 in
theorem mjoin_any {P Bw Bp Bj : Nat} (ps : List Mp) (asked : Nat) (sep : ByteArray) (hp : ∀ p ∈ ps, MPartOk P Bw Bp Bj p asked) {ad : Option Addr} {cap : Nat} {w : World} {d m : Nat} {l : List B}
    (hlen : ps.length ≤ maxLen) (hps : ps ≠ [] → ∃ g off, ad = some ⟨g, off, none⟩ ∧ g < P ∧ MpsG (fun g => g < P) w g off ps) (hE : MEnv P Bw Bp Bj w) (hS : SW P w d m l) (hdm : d ≤ m)
    (hD : d + mpartsD asked ps ≤ 1000000) (hm : m ≤ 1000000) (hL : l.length + (mpartsW setS sep.data.toList asked ps).length ≤ 1099511627776) :
    Calls Tryz.prog 112 #[.slice ad ps.length cap, .string sep, .int .i64 asked, ptrV Bw, ptrV Bp] w (WPost P w d (max m (d + mpartsD asked ps)) (l ++ mpartsW setS sep.data.toList asked ps)) := by
  have HP := hid hp
  have HS := hid hps
  have HW := hid hS
  have HE := hid hE
  unfold maxLen at hlen
  clear hp hps hE hS
  go_enter Tryz.func112, Tryz.ntmps112
  go_wp2
  go_loopw [12] (fun v wr => ∃ i : Nat, i ≤ ps.length ∧ v = .int .i64 i ∧ Hid (SW P wr d (max m (d + mpartsD asked (ps.take i))) (l ++ mpartsW setS sep.data.toList asked (ps.take i))) ∧ Upd P w wr) (fun v _ => ps.length - (RowKit.intOf v).toNat)
  case atStart => exact ⟨0, Nat.zero_le _, rfl, by
    rw [List.take_zero, mpartsD, mpartsW, List.append_nil, Nat.add_zero, Nat.max_eq_left hdm]; exact HW, Upd.refl _ _⟩
  case round =>
    obtain ⟨i, hi, rfl, HW, hu⟩ := hrel
    have HU := hid hu
    have HE1 := hid (HE.out.upd hu)
    by_cases hlt : i < ps.length
    · obtain ⟨g, off, rfl, hgP, hparts⟩ := HS.out (by rintro rfl; simp at hlt)
      obtain ⟨y, hr1, hc⟩ := hparts.at (List.getElem?_eq_getElem hlt)
      obtain ⟨a0, a1, a2, a3, a4, a5, a6, a7, a8, a9, a10, a11, a12, a13⟩ := elem14_of (W := wr) (g := g) (o := off + i * 14) (y := y) fun j v hv => hu.cell hgP (hc j v hv)
      have HR := hid (hr1.upd hu)
      have hPw := HW.out.lt
      have hmem : ps[i] ∈ ps := List.getElem_mem hlt
      have HT := hid (take_snoc hlt)
      have HWl := hid (mpartsW_snoc sep.data.toList asked (ps.take i) ps[i])
      have HDl := hid (mpartsD_snoc asked (ps.take i) ps[i])
      have hLi := mpartsW_le sep.data.toList asked ps (i + 1)
      have hDi := mpartsD_le asked ps (i + 1)
      rw [HT.out, HWl.out, List.length_append, List.length_append] at hLi
      rw [HT.out, HDl.out] at hDi
      have hdm2 : max m (d + mpartsD asked (ps.take i)) ≤ 1000000 := by omega
      have hdm3 : d ≤ max m (d + mpartsD asked (ps.take i)) := by omega
      have hdm4 : d + maskD ps[i] asked ≤ 1000000 := by omega
      have hb0 : (wr.alloc (.cells y.cs 36)).heap[wr.heap.size]? = some (.cells y.cs 36 (0, 0)) := heap_alloc_new _ _
      have HPI := hid (HP.out ps[i] hmem)
      have HUA := hid ((Upd.refl P wr).alloc (.cells y.cs 36))
      have HWA := hid (HW.out.alloc (.cells y.cs 36))
      have HBX := hid hb0
      obtain ⟨b0, b1, b2, b3, b4, b5, b6, b7, b8, b9, b10, b11, b12, b13⟩ := four10_of hb0
      have HEA := hid (HE1.out.upd HUA.out)
      have hw0 := cell_blk (i := 0) HEA.out.bw rfl
      have hp0 := cell_blk (i := 0) HEA.out.bp rfl
      have hlx : (l ++ mpartsW setS sep.data.toList asked (ps.take i)).length = l.length + (mpartsW setS sep.data.toList asked (ps.take i)).length := List.length_append
      have hgi : (i : Int) < (ps.length : Int) := by omega
      have HLI := hid hLi
      clear hb0 hparts hc hr1 hmem hLi hDi
      go_upto_region 3 with fail
      generalize (wr.alloc (.cells y.cs 36)) = WA at *
      have hszA : wr.heap.size < WA.heap.size := lt_of_heap HBX.out
      have hss : sep.data.toList.length = sep.size := rfl
      clear a0 a1 a2 a3 a4 a5 a6 a7 a8 a9 a10 a11 a12 a13
      rcases Nat.eq_zero_or_pos i with hi0 | hpos
      · have hnp : ¬ ((0 : Int) < (i : Int)) := by omega
        have hem : ps.take i = [] := by rw [hi0, List.take_zero]
        have HWl2 := hid (HWl.out.trans (by rw [if_pos hem]))
        have hLb : (mpartsW setS sep.data.toList asked (ps.take i)).length + (maskW setS ps[i] asked).length ≤ (mpartsW setS sep.data.toList asked ps).length := by
          have := HLI.out
          rw [if_pos hem] at this
          simpa using this
        have hcall := HPI.out _ WA d _ _ ((HR.out.upd HUA.out)) HEA.out HWA.out hdm3 hdm4 hdm2 (by omega)
        clear hLb hL
        go_wp2_with (go_at_call 113; refine hcall.mono ?_; clear hcall; rintro e w3 ⟨rfl, hw3, hu3⟩)
        go_roundw
        case rel => exact ⟨i + 1, by omega, by go_num, hid (by
          rw [HT.out, HWl2.out, HDl.out, List.nil_append, ← List.append_assoc]
          rw [show max m (d + max (mpartsD asked (ps.take i)) (maskD ps[i] asked)) = max (max m (d + mpartsD asked (ps.take i))) (d + maskD ps[i] asked) by omega]
          exact hw3), HU.out.trans (HUA.out.trans hu3)⟩
        case measure => simp [RowKit.intOf]; omega
      · have hpos' : (0 : Int) < (i : Int) := by omega
        have hne : ps.take i ≠ [] := by intro e; have := congrArg List.length e; rw [List.length_take, List.length_nil] at this; omega
        have HWl2 := hid (HWl.out.trans (by rw [if_neg hne]))
        have hLb := HLI.out
        rw [if_neg hne, hss] at hLb
        have hput := put_any sep HWA.out (by omega)
        have hL2 : (l ++ mpartsW setS sep.data.toList asked (ps.take i) ++ sep.data.toList).length + (maskW setS ps[i] asked).length ≤ 1099511627776 := by rw [List.length_append, hlx, hss]; omega
        clear hLb hL b0 b1 b2 b3 b4 b5 b6 b7 b8 b9 b10 b11 b12 b13
        go_upto_region 5 with (go_at_call 86; refine hput.mono ?_; clear hput hw0 hp0; rintro e w2 ⟨rfl, hw2, hu2⟩; have hb2 := hu2.row HBX.out (by decide) (by omega); obtain ⟨b0, b1, b2, b3, b4, b5, b6, b7, b8, b9, b10, b11, b12, b13⟩ := four10_of hb2; have HE2 := hid (HEA.out.upd hu2); have hp0 := cell_blk (i := 0) HE2.out.bp rfl; have hcall := HPI.out _ w2 d _ _ ((HR.out.upd HUA.out).upd hu2) HE2.out hw2 hdm3 hdm4 hdm2 hL2; have HU2 := hid hu2; clear hb2 hu2 hw2)
        go_wp2_with (go_at_call 113; refine hcall.mono ?_; clear hcall; rintro e w3 ⟨rfl, hw3, hu3⟩)
        go_roundw
        case rel => exact ⟨i + 1, by omega, by go_num, hid (by
          rw [HT.out, HWl2.out, HDl.out, ← List.append_assoc, ← List.append_assoc]
          rw [show max m (d + max (mpartsD asked (ps.take i)) (maskD ps[i] asked)) = max (max m (d + mpartsD asked (ps.take i))) (d + maskD ps[i] asked) by omega]
          exact hw3), HU.out.trans (HUA.out.trans (HU2.out.trans hu3))⟩
        case measure => simp [RowKit.intOf]; omega
    · obtain rfl : i = ps.length := by omega
      go_wp2
      go_end0
      have hw := HW.out
      rw [List.take_length] at hw
      exact ⟨rfl, hw, HU.out⟩
theorem maskW_own {r : Mp} {asked : Nat} (h : ¬ mlev r < asked) : maskW setS r asked = mpW setS r ∧ maskD r asked = mpD r := by
  unfold maskW maskD
  rw [if_neg h, if_neg h]
  exact ⟨rfl, rfl⟩

set_option maxRecDepth 100000 in
set_option maxHeartbeats 1000000 in
theorem mpart_row {P Bw Bp Bj : Nat} {k : Int} (hk : k = 3 ∨ k = 4) (ps : List Mp) (hp : ∀ p ∈ ps, MPartOk P Bw Bp Bj p (mneedK k)) {asked : Nat} (ha : ¬ mlevK k < asked) : MPartOk P Bw Bp Bj (.mk k Re.zero [] ps 0 0) asked := by
  intro y w d m l hr hE hW hdm hD hm hL
  obtain ⟨y1, y2, y3, y4, y5, y6, hlen, hps⟩ := hr.open
  have hlv : ¬ mlev (.mk k Re.zero [] ps 0 0) < asked := ha
  obtain ⟨e1, e2⟩ := maskW_own hlv
  obtain ⟨sep, hsep⟩ : ∃ sep, sep = (if k = 4 then [32, 124, 32] else [32] : List B) := ⟨_, rfl⟩
  have e3 : mpW setS (.mk k Re.zero [] ps 0 0) = mpartsW setS sep (mneedK k) ps := by
    rw [mpW, hsep]
    rcases hk with rfl | rfl <;> rfl
  have e4 : mpD (.mk k Re.zero [] ps 0 0) = mpartsD (mneedK k) ps := by rw [mpD]
  rw [e1, e3] at hL
  rw [e2, e4] at hD
  rw [e1, e2, e3, e4]
  have ha' : ¬ ((mlevK k : Int) < (asked : Int)) := by omega
  have hlev := mlevel_any y
  rw [y1] at hlev
  have HW := hid hW
  have HE := hid hE
  have hPw := hW.lt
  have HU0 := hid ((Upd.refl P w).alloc (.cells y.cs 36))
  have HW0 := hid (hW.alloc (.cells y.cs 36))
  have hb0 : (w.alloc (.cells y.cs 36)).heap[w.heap.size]? = some (.cells y.cs 36 (0, 0)) := heap_alloc_new _ _
  have HFACT := hid (show ∀ W : World, Upd P (w.alloc (.cells y.cs 36)) W → Four10 W w.heap.size y ∧ W.cell? ⟨Bj, 0, none⟩ = some (.func (.func 112) #[] #[ptrV Bw, ptrV Bp]) ∧ W.cell? ⟨w.heap.size, 0, none⟩ = some (.int .i64 k) ∧ W.cell? ⟨w.heap.size, 11, none⟩ = some (.slice y.ad ps.length y.cap) from fun W hu =>
    ⟨four10_of (hu.row hb0 (by decide) (by omega)), cell_blk (HE.out.upd (HU0.out.trans hu)).bj rfl, by rw [← y1]; exact (four10_of (hu.row hb0 (by decide) (by omega))).1, by rw [← y3]; exact (four10_of (hu.row hb0 (by decide) (by omega))).2.2.2.2.2.2.2.2.2.2.2.1⟩)
  have HPS := hid (show ∀ W : World, Upd P w W → ps ≠ [] → ∃ g off, y.ad = some ⟨g, off, none⟩ ∧ g < P ∧ MpsG (fun g => g < P) W g off ps from fun W hu hne => by
    obtain ⟨g, off, h1, h2, h3⟩ := hps hne
    exact ⟨g, off, h1, h2, h3.frame (fun _ h => h) (fun g hg hl => hu.block g hl (by omega) (.inl hg)) h2⟩)
  have HJ := hid (show ∀ (W : World) (sp : ByteArray) (n : Nat), sp.data.toList = sep → n = mneedK k → Upd P w W → SW P W d m l → Calls Tryz.prog 112 #[.slice y.ad ps.length y.cap, .string sp, .int .i64 n, ptrV Bw, ptrV Bp] W (WPost P W d (max m (d + mpartsD (mneedK k) ps)) (l ++ mpartsW setS sep (mneedK k) ps)) from fun W sp n h1 h2 hu hw => by
    rw [← h1] at hL ⊢
    subst h2
    exact mjoin_any ps (mneedK k) sp hp hlen (HPS.out W hu) (HE.out.upd hu) hw hdm hD hm hL)
  obtain ⟨⟨z0, c1, c2, c3, c4, c5, c6, c7, c8, c9, c10, z11, c12, c13⟩, zj, c0, c11⟩ := HFACT.out _ (Upd.refl _ _)
  clear z0 z11 zj
  unfold maxLen at hlen
  have hky : y.k = k := y1
  have hny : y.n = ps.length := y3
  have HY := hid (And.intro y2 (And.intro y4 y5))
  have h0 := (four10_of hb0).1
  have h11 := (four10_of hb0).2.2.2.2.2.2.2.2.2.2.2.1
  clear hr hE hW hlv e1 e2 e3 e4 hD hL hb0 hp hps ha HPS y1 y2 y3 y4 y5 y6 c0 c11
  rcases hk with rfl | rfl
  · have HJ4 := hid (fun W => HJ.out W ⟨#[32]⟩ 2 (by rw [hsep]; rfl) rfl)
    clear HJ
    have HK := hid hky
    have HNY := hid hny
    clear hky hny hsep
    go_enter Tryz.func113, Tryz.ntmps113
    go_upto_region 1 with fail
    generalize w.alloc (.cells y.cs 36) = W0 at *
    go_wp2_with (first | (go_at_call 114; refine (hlev _).mono ?_; clear hlev; rintro e W1 ⟨rfl, hb1⟩; have HU1 := hid (Upd.below (Upd.refl P W0) hb1); have HW1 := hid (HW0.out.below hb1); clear hb1 h0 h11 c1 c2 c3 c4 c5 c6 c7 c8 c9 c10 c12 c13; obtain ⟨⟨z0, c1, c2, c3, c4, c5, c6, c7, c8, c9, c10, z11, c12, c13⟩, cj, c0, c11⟩ := HFACT.out _ HU1.out; clear z0 z11) | (go_at_call 112; refine (HJ4.out W1 (HU0.out.trans HU1.out) HW1.out).mono ?_; rintro e W2 ⟨rfl, hw2, hu2⟩))
    go_end0
    exact ⟨rfl, hw2, HU0.out.trans (HU1.out.trans hu2)⟩
  · have HJ4 := hid (fun W => HJ.out W ⟨#[32, 124, 32]⟩ 1 (by rw [hsep]; rfl) rfl)
    clear HJ
    have HK := hid hky
    have HNY := hid hny
    clear hky hny hsep
    go_enter Tryz.func113, Tryz.ntmps113
    go_upto_region 1 with fail
    generalize w.alloc (.cells y.cs 36) = W0 at *
    go_wp2_with (first | (go_at_call 114; refine (hlev _).mono ?_; clear hlev; rintro e W1 ⟨rfl, hb1⟩; have HU1 := hid (Upd.below (Upd.refl P W0) hb1); have HW1 := hid (HW0.out.below hb1); clear hb1 h0 h11 c1 c2 c3 c4 c5 c6 c7 c8 c9 c10 c12 c13; obtain ⟨⟨z0, c1, c2, c3, c4, c5, c6, c7, c8, c9, c10, z11, c12, c13⟩, cj, c0, c11⟩ := HFACT.out _ HU1.out; clear z0 z11) | (go_at_call 112; refine (HJ4.out W1 (HU0.out.trans HU1.out) HW1.out).mono ?_; rintro e W2 ⟨rfl, hw2, hu2⟩))
    go_end0
    exact ⟨rfl, hw2, HU0.out.trans (HU1.out.trans hu2)⟩
end Go.Proofs.YtfljcfdfgojdoaaGreatDoor.Sh

namespace Go.Proofs.YtfljcfdfgojdoaaGreatDoor.Sh
open Go.RowKit Go.Lib Go.Proofs.YtfljcfdfgojdoaaGreatDoor

set_option maxRecDepth 100000 in
set_option maxHeartbeats 1000000 in
theorem mpart_rep {P Bw Bp Bj : Nat} (p : Mp) {lo hi : Int} (ho : oftOk lo hi) (hp : MPartOk P Bw Bp Bj p 3) {asked : Nat} (ha : ¬ 2 < asked) : MPartOk P Bw Bp Bj (.mk 5 Re.zero [] [p] lo hi) asked := by
  intro y w d m l hr hE hW hdm hD hm hL
  obtain ⟨y1, y2, y3, y4, y5, y6, hlen, hps⟩ := hr.open
  have hlv : ¬ mlev (.mk 5 Re.zero [] [p] lo hi) < asked := ha
  obtain ⟨e1, e2⟩ := maskW_own hlv
  have e3 : mpW setS (.mk 5 Re.zero [] [p] lo hi) = maskW setS p 3 ++ oftenW lo hi := by
    rw [mpW, if_pos rfl, mpartsW_one]
  have e4 : mpD (.mk 5 Re.zero [] [p] lo hi) = maskD p 3 := by
    rw [mpD, mpartsD, mpartsD]
    show max (maskD p 3) 0 = _
    omega
  rw [e1, e3] at hL
  rw [e2, e4] at hD
  rw [e1, e2, e3, e4]
  have ha' : ¬ ((2 : Int) < (asked : Int)) := by omega
  have hlev := mlevel_any y
  rw [y1, show ((mlevK 5 : Nat) : Int) = 2 from rfl] at hlev
  have HW := hid hW
  have HE := hid hE
  have hPw := hW.lt
  have HU0 := hid ((Upd.refl P w).alloc (.cells y.cs 36))
  have HW0 := hid (hW.alloc (.cells y.cs 36))
  have hb0 : (w.alloc (.cells y.cs 36)).heap[w.heap.size]? = some (.cells y.cs 36 (0, 0)) := heap_alloc_new _ _
  obtain ⟨g, off, hadd, hgP, hpg⟩ := hps (by simp)
  have HFACT := hid (show ∀ W : World, Upd P (w.alloc (.cells y.cs 36)) W → Four10 W w.heap.size y ∧ (W.cell? ⟨Bw, 0, none⟩ = some (ptrV P) ∧ W.cell? ⟨Bp, 0, none⟩ = some (.func (.func 113) #[] #[ptrV Bw, ptrV Bp, ptrV Bj])) ∧ W.cell? ⟨w.heap.size, 0, none⟩ = some (.int .i64 5) ∧ W.cell? ⟨w.heap.size, 11, none⟩ = some (.slice (some ⟨g, off, none⟩) 1 y.cap) ∧ W.cell? ⟨w.heap.size, 12, none⟩ = some (.int .i64 lo) ∧ W.cell? ⟨w.heap.size, 13, none⟩ = some (.int .i64 hi) from fun W hu => by
    have hf := four10_of (hu.row hb0 (by decide) (by omega))
    have hf2 := hf
    obtain ⟨d0, _, _, _, _, _, _, _, _, _, _, d11, d12, d13⟩ := hf2
    rw [y1] at d0
    rw [hadd, y3] at d11
    rw [y4] at d12
    rw [y5] at d13
    exact ⟨hf, ⟨cell_blk (HE.out.upd (HU0.out.trans hu)).bw rfl, cell_blk (HE.out.upd (HU0.out.trans hu)).bp rfl⟩, d0, d11, d12, d13⟩)
  obtain ⟨z, hr1, hc⟩ := hpg.at (i := 0) (r := p) rfl
  have HC := hid (show ∀ W : World, Upd P w W → Elem14 W g off z from fun W hu => elem14_of fun j v hv => hu.cell hgP (by simpa using hc j v hv))
  have hol := oftenW_len lo hi
  have HCALL := hid (show ∀ (W : World), Upd P w W → SW P W d m l → Calls Tryz.prog 113 #[.agg z.cs, .int .i64 3, ptrV Bw, ptrV Bp, ptrV Bj] W (WPost P W d (max m (d + maskD p 3)) (l ++ maskW setS p 3)) from fun W hu hw =>
    hp _ W d _ _ (hr1.upd hu) (HE.out.upd hu) hw hdm hD hm (by rw [List.length_append] at hL; omega))
  obtain ⟨⟨z0, c1, c2, c3, c4, c5, c6, c7, c8, c9, c10, z11, z12, z13⟩, ⟨cw, cp⟩, c0, c11, c12, c13⟩ := HFACT.out _ (Upd.refl _ _)
  have h0 := (four10_of hb0).1
  have h11 := (four10_of hb0).2.2.2.2.2.2.2.2.2.2.2.1
  have h12 := (four10_of hb0).2.2.2.2.2.2.2.2.2.2.2.2.1
  have h13 := (four10_of hb0).2.2.2.2.2.2.2.2.2.2.2.2.2
  clear z0 z11 z12 z13 hr hE hW hlv e1 e2 e3 e4 hb0 hp hps ha hlen hpg hr1 hc c0 c11 c12 c13 y1 y2 y3 y4 y5 y6 hadd
  go_enter Tryz.func113, Tryz.ntmps113
  go_upto_region 1 with fail
  generalize w.alloc (.cells y.cs 36) = W0 at *
  go_upto_region 12 with (go_at_call 114; refine (hlev _).mono ?_; clear hlev; rintro e W1 ⟨rfl, hb1⟩; have HU1 := hid (Upd.below (Upd.refl P W0) hb1); have HW1 := hid (HW0.out.below hb1); clear hb1 h0 h11 h12 h13 c1 c2 c3 c4 c5 c6 c7 c8 c9 c10 cw cp; obtain ⟨⟨z0, c1, c2, c3, c4, c5, c6, c7, c8, c9, c10, z11, z12, z13⟩, ⟨cw, cp⟩, c0, c11, c12, c13⟩ := HFACT.out _ HU1.out; clear z0 z11 z12 z13; obtain ⟨g0, g1, g2, g3, g4, g5, g6, g7, g8, g9, g10, g11, g12, g13⟩ := HC.out _ (HU0.out.trans HU1.out))
  go_still_tail 5, (by kernel_rfl)
  change wpList _ _ _ _ _ W1.drew
  have HU1D := hid HU1.out.drew
  have HW1D := hid (show SW P W1.drew d m l from by obtain ⟨v, h1, h2⟩ := HW1.out; exact ⟨v, h1, h2⟩)
  clear c0 c1 c2 c3 c4 c5 c6 c7 c8 c9 c10 c11 c12 c13 cw cp g0 g1 g2 g3 g4 g5 g6 g7 g8 g9 g10 g11 g12 g13
  generalize W1.drew = W4 at *
  go_upto_region 13 with (go_at_call 113; refine (HCALL.out W4 (HU0.out.trans HU1D.out) HW1D.out).mono ?_; rintro e W5 ⟨rfl, hw5, hu5⟩; have HU5 := hid (HU1D.out.trans hu5); have HW5 := hid hw5; clear hu5 hw5; obtain ⟨_, ⟨cw, cp⟩, c0, c11, c12, c13⟩ := HFACT.out _ HU5.out)
  have HFQ := hid (show ∀ W : World, Upd P W0 W → W.cell? ⟨Bw, 0, none⟩ = some (ptrV P) ∧ W.cell? ⟨w.heap.size, 12, none⟩ = some (.int .i64 lo) ∧ W.cell? ⟨w.heap.size, 13, none⟩ = some (.int .i64 hi) from fun W h => by
    obtain ⟨_, ⟨cw, _⟩, _, _, c12, c13⟩ := HFACT.out W h
    exact ⟨cw, c12, c13⟩)
  have HUD := hid HU5.out.drew
  have HWD := hid (show SW P W5.drew d (max m (d + maskD p 3)) (l ++ maskW setS p 3) from by obtain ⟨v, h1, h2⟩ := HW5.out; exact ⟨v, h1, h2⟩)
  have HPUT := hid (show ∀ W : World, SW P W d (max m (d + maskD p 3)) (l ++ maskW setS p 3) → _ from fun W h => put_any ⟨(oftenW lo hi).toArray⟩ h (by rw [str_size]; rw [List.length_append] at hL ⊢; omega))
  have hoft := often_any lo hi ho
  go_region_held3 (fun W => W.cell? ⟨Bw, 0, none⟩ = some (ptrV P) ∧ W.cell? ⟨w.heap.size, 12, none⟩ = some (.int .i64 lo) ∧ W.cell? ⟨w.heap.size, 13, none⟩ = some (.int .i64 hi)) (first | exact HFQ.out _ HU6.out | exact HFQ.out _ HUD.out | exact HFQ.out _ HU5.out)
    ((first | (go_at_call 102; refine (hoft _).mono ?_; rintro e W7 ⟨rfl, rfl⟩) | (go_at_call 86; refine (HPUT.out _ HWD.out).mono ?_; rintro e W6 ⟨rfl, hw6, hu6⟩; have HU6 := hid (HUD.out.trans hu6); have HW6 := hid hw6; clear hu6 hw6)))
  all_goals
    go_wp2
    go_end0
    exact ⟨rfl, by rw [← List.append_assoc]; exact HW6.out, HU0.out.trans HU6.out⟩
end Go.Proofs.YtfljcfdfgojdoaaGreatDoor.Sh

namespace Go.Proofs.YtfljcfdfgojdoaaGreatDoor.Sh
open Go.RowKit Go.Lib Go.Proofs.YtfljcfdfgojdoaaGreatDoor

theorem SW.drew {P : Nat} {w : World} {d m : Nat} {l : List B} (h : SW P w d m l) : SW P w.drew d m l := by
  obtain ⟨v, h1, h2⟩ := h
  exact ⟨v, h1, h2⟩
theorem textW_len (l : List B) : (textW l).length ≤ 4 * l.length + 2 := by
  unfold textW
  have : (l.flatMap escB).length ≤ 4 * l.length := by
    induction l with
    | nil => simp
    | cons c l ih =>
      rw [List.flatMap_cons, List.length_append, List.length_cons]
      have := esc_len c
      omega
  simp only [List.length_cons, List.length_append, List.length_nil]
  omega
theorem leafr_any {F : Nat → Prop} {w : World} {r : Re} {y : Rw} (h : LeafR r) (hs : SeRe r) (hG : ReG F w r y.cs) (W : World) : Calls Tryz.prog 103 #[.agg y.cs] W (StrPost (leafOf setS r) W) := by
  obtain ⟨k, x, s, hn, hk⟩ := h
  obtain ⟨ad, cap, e, _, _⟩ := hG.open
  rw [e]
  exact leaf_any _ 0 0 W hk hs.set (Node.short hn)
set_option maxRecDepth 100000 in
set_option maxHeartbeats 1000000 in
theorem mpart_leaf {P Bw Bp Bj : Nat} {k : Int} {r : Re} {o : List B} (hn : MNode k r o 0 0 0) (hk : k = 1 ∨ k = 2) (hs : SeRe r) {asked : Nat} (ha : asked ≤ 3) : MPartOk P Bw Bp Bj (.mk k r o [] 0 0) asked := by
  intro y w d m l hr hE hW hdm hD hm hL
  obtain ⟨y1, y2, y3, y4, y5, y6, hlen, hps⟩ := hr.open
  have hlv : ¬ mlev (.mk k r o [] 0 0) < asked := by
    show ¬ mlevK k < asked
    rcases hk with rfl | rfl <;> exact Nat.not_lt.2 ha
  obtain ⟨e1, e2⟩ := maskW_own hlv
  have e3 : mpW setS (.mk k r o [] 0 0) = leafOf setS r ++ (if k = 2 then 58 :: textW o else []) := by
    rw [mpW]
    rcases hk with rfl | rfl <;> rfl
  have e4 : mpD (.mk k r o [] 0 0) = 0 := by rw [mpD, mpartsD]
  rw [e1, e3] at hL
  rw [e1, e2, e3, e4, Nat.add_zero, Nat.max_eq_left hdm]
  have hleaf : LeafR r := by cases hn <;> first | assumption | (rcases hk with h | h <;> cases h)
  have ho : o.length ≤ 256 := by cases hn <;> first | assumption | (simp; done) | (rcases hk with h | h <;> cases h)
  have hlf := leafr_any hleaf hs y6
  have hlv2 : ((mlevK k : Nat) : Int) = 3 := by rcases hk with rfl | rfl <;> rfl
  have ha' : ¬ ((3 : Int) < (asked : Int)) := by omega
  have hlev := mlevel_any y
  rw [y1, hlv2] at hlev
  have HW := hid hW
  have HE := hid hE
  have hPw := hW.lt
  have HU0 := hid ((Upd.refl P w).alloc (.cells y.cs 36))
  have HW0 := hid (hW.alloc (.cells y.cs 36))
  have hb0 : (w.alloc (.cells y.cs 36)).heap[w.heap.size]? = some (.cells y.cs 36 (0, 0)) := heap_alloc_new _ _
  have HFACT := hid (show ∀ W : World, Upd P (w.alloc (.cells y.cs 36)) W → Four10 W w.heap.size y ∧ W.cell? ⟨Bw, 0, none⟩ = some (ptrV P) ∧ W.cell? ⟨w.heap.size, 0, none⟩ = some (.int .i64 k) from fun W hu => by
    have hf := four10_of (hu.row hb0 (by decide) (by omega))
    have d0 := hf.1
    rw [y1] at d0
    exact ⟨hf, cell_blk (HE.out.upd (HU0.out.trans hu)).bw rfl, d0⟩)
  obtain ⟨⟨z0, c1, c2, c3, c4, c5, c6, c7, c8, c9, c10, c11, c12, c13⟩, cw, c0⟩ := HFACT.out _ (Upd.refl _ _)
  have hyo := hid (show y.o = o from y2)
  have HSZ := hid (show l.length + (leafOf setS r).length ≤ 1099511627776 ∧ (leafOf setS r).length ≤ 1099511627776 from by rw [List.length_append] at hL; exact ⟨by omega, by omega⟩)
  clear hr hE hW hlv e1 e2 e3 e4 hb0 hps hlen c0 y1 y2 y3 y4 y5 y6 hs hn hD hlv2 hleaf
  go_enter Tryz.func113, Tryz.ntmps113
  go_upto_region 1 with fail
  generalize w.alloc (.cells y.cs 36) = W0 at *
  generalize leafOf setS r = X at *
  have hk4 : (k == 4) = false := by rcases hk with rfl | rfl <;> rfl
  have hk3 : (k == 3) = false := by rcases hk with rfl | rfl <;> rfl
  have hk5 : (k == 5) = false := by rcases hk with rfl | rfl <;> rfl
  have HKK := hid hk
  clear hk
  go_upto_region 4 with (go_at_call 114; refine (hlev _).mono ?_; clear hlev; rintro e W1 ⟨rfl, hb1⟩; have HU1 := hid (Upd.below (Upd.refl P W0) hb1); have HW1 := hid (HW0.out.below hb1); clear hb1 z0 c1 c2 c3 c4 c5 c6 c7 c8 c9 c10 c11 c12 c13 cw; obtain ⟨⟨z0, c1, c2, c3, c4, c5, c6, c7, c8, c9, c10, c11, c12, c13⟩, cw, c0⟩ := HFACT.out _ HU1.out; clear z0)
  have HFQ := hid (show ∀ W : World, Upd P W0 W → W.cell? ⟨Bw, 0, none⟩ = some (ptrV P) ∧ W.cell? ⟨w.heap.size, 1, none⟩ = some (.int .i64 y.r.k) ∧ W.cell? ⟨w.heap.size, 2, none⟩ = some (.string ⟨y.r.x.toArray⟩) ∧ W.cell? ⟨w.heap.size, 3, none⟩ = some (.int .u64 y.r.s.a) ∧ W.cell? ⟨w.heap.size, 4, none⟩ = some (.int .u64 y.r.s.b) ∧ W.cell? ⟨w.heap.size, 5, none⟩ = some (.int .u64 y.r.s.c) ∧ W.cell? ⟨w.heap.size, 6, none⟩ = some (.int .u64 y.r.s.d) ∧ W.cell? ⟨w.heap.size, 7, none⟩ = some (.slice y.r.ad y.r.n y.r.cap) ∧ W.cell? ⟨w.heap.size, 8, none⟩ = some (.int .i64 y.r.mn) ∧ W.cell? ⟨w.heap.size, 9, none⟩ = some (.int .i64 y.r.mx) from fun W h => by
    obtain ⟨⟨_, c1, c2, c3, c4, c5, c6, c7, c8, c9, _⟩, cw, _⟩ := HFACT.out W h
    exact ⟨cw, c1, c2, c3, c4, c5, c6, c7, c8, c9⟩)
  have HUD := hid HU1.out.drew
  have HWD := hid HW1.out.drew
  go_region_held3 (fun W => W.cell? ⟨Bw, 0, none⟩ = some (ptrV P) ∧ W.cell? ⟨w.heap.size, 1, none⟩ = some (.int .i64 y.r.k) ∧ W.cell? ⟨w.heap.size, 2, none⟩ = some (.string ⟨y.r.x.toArray⟩) ∧ W.cell? ⟨w.heap.size, 3, none⟩ = some (.int .u64 y.r.s.a) ∧ W.cell? ⟨w.heap.size, 4, none⟩ = some (.int .u64 y.r.s.b) ∧ W.cell? ⟨w.heap.size, 5, none⟩ = some (.int .u64 y.r.s.c) ∧ W.cell? ⟨w.heap.size, 6, none⟩ = some (.int .u64 y.r.s.d) ∧ W.cell? ⟨w.heap.size, 7, none⟩ = some (.slice y.r.ad y.r.n y.r.cap) ∧ W.cell? ⟨w.heap.size, 8, none⟩ = some (.int .i64 y.r.mn) ∧ W.cell? ⟨w.heap.size, 9, none⟩ = some (.int .i64 y.r.mx)) (first | exact HFQ.out _ HU3.out | exact HFQ.out _ HU2.out | exact HFQ.out _ HUD.out | exact HFQ.out _ HU1.out)
    ((first | (go_at_call 103; refine (hlf _).mono ?_; clear hlf; rintro e W2 ⟨rfl, hb2⟩; have HU2 := hid (Upd.below HUD.out hb2); have HW2 := hid (HWD.out.below hb2); clear hb2) | (go_at_call 86; refine (put_any ⟨X.toArray⟩ HW2.out (by rw [str_size]; have := HSZ.out; omega)).mono ?_; rintro e W3 ⟨rfl, hw3, hu3⟩; have HU3 := hid (HU2.out.trans hu3); have HW3 := hid hw3; clear hu3 hw3)))
  clear c0 c1 c2 c3 c4 c5 c6 c7 c8 c9 c10 c11 c12 c13 cw
  obtain ⟨⟨z0, c1, c2, c3, c4, c5, c6, c7, c8, c9, c10, c11, c12, c13⟩, cw, c0⟩ := HFACT.out _ HU3.out
  clear z0
  have hk := HKK.out
  clear HKK
  rcases hk with rfl | rfl
  · go_wp2
    go_end0
    exact ⟨rfl, by simpa using HW3.out, HU0.out.trans HU3.out⟩
  · rw [hyo.out] at c10
    go_upto_region 6 with fail
    have htx := text2_any ⟨o.toArray⟩ (by rw [str_size]; omega)
    have htl := textW_len o
    have hts : (⟨(textW o).toArray⟩ : ByteArray).size ≤ 2000 := by rw [str_size]; omega
    have hadd : ∀ W : World, (Op.stringOp .add ⟨#[58]⟩ ⟨(textW o).toArray⟩).run Tryz.prog W = .ok (.string ⟨(58 :: textW o).toArray⟩) W := fun W => by
      rw [run_string_add_sum W _ _ (by have : (⟨#[58]⟩ : ByteArray).size = 1 := rfl; omega), show (⟨#[58]⟩ : ByteArray) ++ ⟨(textW o).toArray⟩ = ⟨(58 :: textW o).toArray⟩ from cat_str [58] (textW o)]
    have HFQ2 := hid (show ∀ W : World, Upd P W0 W → W.cell? ⟨Bw, 0, none⟩ = some (ptrV P) ∧ W.cell? ⟨w.heap.size, 10, none⟩ = some (.string ⟨o.toArray⟩) from fun W h => by
      obtain ⟨⟨_, _, _, _, _, _, _, _, _, _, c10, _⟩, cw, _⟩ := HFACT.out W h
      rw [hyo.out] at c10
      exact ⟨cw, c10⟩)
    have HUE := hid HU3.out.drew
    have HWE := hid HW3.out.drew
    have HTO := hid (show (⟨o.toArray⟩ : ByteArray).data.toList = o from rfl)
    clear c1 c2 c3 c4 c5 c6 c7 c8 c9 c11 c12 c13
    go_region_held3 (fun W => W.cell? ⟨Bw, 0, none⟩ = some (ptrV P) ∧ W.cell? ⟨w.heap.size, 10, none⟩ = some (.string ⟨o.toArray⟩)) (first | exact HFQ2.out _ HU6.out | exact HFQ2.out _ HU5.out | exact HFQ2.out _ HUE.out | exact HFQ2.out _ HU3.out)
      ((first | (go_at_call 87; refine (htx _).mono ?_; clear htx; rintro e W5 ⟨rfl, hb5⟩; have HU5 := hid (Upd.below HUE.out hb5); have HW5 := hid (HWE.out.below hb5); clear hb5) | (go_at_call 86; refine (put_any ⟨(58 :: textW o).toArray⟩ HW5.out (by rw [str_size]; have := HSZ.out; simp only [List.length_append, List.length_cons]; omega)).mono ?_; rintro e W6 ⟨rfl, hw6, hu6⟩; have HU6 := hid (HU5.out.trans hu6); have HW6 := hid hw6; clear hu6 hw6)))
    all_goals
      go_wp2
      go_end0
      refine ⟨rfl, ?_, HU0.out.trans HU6.out⟩
      rw [← List.append_assoc]
      exact HW6.out
end Go.Proofs.YtfljcfdfgojdoaaGreatDoor.Sh
