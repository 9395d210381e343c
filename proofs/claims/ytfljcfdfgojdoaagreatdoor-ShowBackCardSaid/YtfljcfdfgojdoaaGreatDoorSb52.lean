/-
  ShowBack: the walk.
-/
import Derived.Test.YtfljcfdfgojdoaaGreatDoorSb51
import Derived.Deep.DeepCutAuto
namespace Go.Proofs.YtfljcfdfgojdoaaGreatDoor.Sh
open Go.RowKit Go.Lib Go.Proofs.YtfljcfdfgojdoaaGreatDoor

theorem endM_cases (l : List B) (m : Nat) : (endM l m = (l, 0) ∧ m ≤ 32 ∧ l.length ≤ 65536) ∨ ∃ e, endM l m = ([], e) ∧ (e = 8 ∨ e = 2) := by
  unfold endM
  split
  · exact .inr ⟨8, rfl, .inl rfl⟩
  · split
    · exact .inr ⟨2, rfl, .inr rfl⟩
    · exact .inl ⟨rfl, by omega, by omega⟩
theorem showRe_cases (r : Re) : (showRe r = (reW setS r, 0) ∧ checkM r = 0 ∧ reD r ≤ 32 ∧ (reW setS r).length ≤ 65536) ∨ ∃ e, showRe r = ([], e) ∧ e ≠ 0 ∧ (checkM r = 0 → e = 8 ∨ e = 2) := by
  unfold showRe
  split
  · rename_i h
    rcases endM_cases (reW setS r) (reD r) with ⟨h1, h2, h3⟩ | ⟨e, h1, h2⟩
    · exact .inl ⟨h1, h, h2, h3⟩
    · exact .inr ⟨e, h1, by omega, fun _ => h2⟩
  · rename_i h
    exact .inr ⟨_, rfl, h, fun h' => absurd h' h⟩
theorem showMp_cases (m : Mp) : (showMp m = (mpW setS m, 0) ∧ OkMp 200 m ∧ mpD m ≤ 32 ∧ (mpW setS m).length ≤ 65536) ∨ ∃ e, showMp m = ([], e) ∧ e ≠ 0 := by
  unfold showMp
  split
  · rename_i h
    rcases endM_cases (mpW setS m) (mpD m) with ⟨h1, h2, h3⟩ | ⟨e, h1, h2⟩
    · exact .inl ⟨h1, okMp_of h, h2, h3⟩
    · exact .inr ⟨e, h1, by omega⟩
  · exact .inr ⟨1, rfl, by decide⟩
set_option maxRecDepth 100000 in
set_option maxHeartbeats 4000000 in
theorem showBack_walk {r : Re} {m : Mp} {k : Int} {x : List B} {s : Se} {ad : Option Addr} {n cap : Nat} {mn mx : Int} {y : Mw} {w : World} (hr : ReG (fun g => g < w.heap.size) w r (reC k x s (.slice ad n cap) mn mx)) (hm : MpG (fun g => g < w.heap.size) w m y) (htr : TxRe r) (hsr : SeRe r) (htm : TxMp m) (hsm : SeMp m) :
    Calls Tryz.prog 4 #[.agg (reC k x s (.slice ad n cap) mn mx), .agg y.cs] w fun e w' => e = .returned (.bool true) ∧ Below w.heap.size w w' := by
  have e24 := eq24
  have HB0 := hid (show Below w.heap.size w ((w.alloc (.cells (reC k x s (.slice ad n cap) mn mx) 33)).alloc (.cells y.cs 36)) from ((Below.refl _ w).alloc (Nat.le_refl _) _).alloc (by simp) _)
  have HSZ := hid (show ((w.alloc (.cells (reC k x s (.slice ad n cap) mn mx) 33)).alloc (.cells y.cs 36)).heap.size = w.heap.size + 2 by simp)
  have hbr : ((w.alloc (.cells (reC k x s (.slice ad n cap) mn mx) 33)).alloc (.cells y.cs 36)).heap[w.heap.size]? = some (.cells (reC k x s (.slice ad n cap) mn mx) 33 (0, 0)) := heap_alloc2_old _ _ _
  have hbm : ((w.alloc (.cells (reC k x s (.slice ad n cap) mn mx) 33)).alloc (.cells y.cs 36)).heap[w.heap.size + 1]? = some (.cells y.cs 36 (0, 0)) := heap_alloc2_new _ _ _
  generalize hW0 : (w.alloc (.cells (reC k x s (.slice ad n cap) mn mx) 33)).alloc (.cells y.cs 36) = W0 at *
  have HBOX := hid (show ∀ W : World, Below (w.heap.size + 2) W0 W → Nine W w.heap.size k x s (.slice ad n cap) mn mx ∧ Four10 W (w.heap.size + 1) y from fun W hb => ⟨nine_of ((hb.block _ (by omega)).trans hbr), four10_of ((hb.block _ (by omega)).trans hbm)⟩)
  have HLOW := hid (show ∀ W : World, Below (w.heap.size + 2) W0 W → Below w.heap.size w W from fun W hb => HB0.out.trans (hb.mono (by omega)))
  have HR := hid (show ∀ W : World, Below (w.heap.size + 2) W0 W → (∀ g, g < w.heap.size → g < W.heap.size) ∧ ReG (fun g => g < w.heap.size) W r (reC k x s (.slice ad n cap) mn mx) ∧ MpG (fun g => g < w.heap.size) W m y from fun W hb =>
    ⟨fun g hg => Nat.lt_of_lt_of_le hg (HLOW.out W hb).size, hr.below (fun _ h => h) (HLOW.out W hb), hm.below (fun _ h => h) (HLOW.out W hb)⟩)
  have HT := hid (And.intro htr (And.intro hsr (And.intro htm hsm)))
  have HQ0 := hid (Below.refl (w.heap.size + 2) W0)
  have HW0 := hid hW0
  obtain ⟨⟨c0, c1, c2, c3, c4, c5, c6, c7, c8⟩, ⟨d0, d1, d2, d3, d4, d5, d6, d7, d8, d9, d10, d11, d12, d13⟩⟩ := HBOX.out _ HQ0.out
  have hf1 := few_re (HR.out _ HQ0.out).1 (HR.out _ HQ0.out).2.1
  have HF2 := hid (fun (W : World) (h : Below (w.heap.size + 2) W0 W) => few_mp (HR.out W h).1 (HR.out W h).2.2)
  clear hr hm htr hsr htm hsm hbr hbm hW0
  go_enter Tryz.func4, Tryz.ntmps4
  go_upto_region 1 with fail
  rw [HW0.out]
  go_upto_if 22 with (first | (go_at_call 15; refine hf1.mono ?_; clear hf1; rintro e W1 ⟨b1, rfl, hb1, hl1⟩; have HQ1 := hid (HQ0.out.trans (hl1.mono (by rw [HSZ.out]; omega))); have HN1 := hid hb1; clear hb1 hl1 c0 c1 c2 c3 c4 c5 c6 c7 c8 d0 d1 d2 d3 d4 d5 d6 d7 d8 d9 d10 d11 d12 d13; obtain ⟨⟨c0, c1, c2, c3, c4, c5, c6, c7, c8⟩, ⟨d0, d1, d2, d3, d4, d5, d6, d7, d8, d9, d10, d11, d12, d13⟩⟩ := HBOX.out _ HQ1.out; have hf2 := HF2.out W1 HQ1.out) | (go_at_call 16; refine hf2.mono ?_; clear hf2; rintro e W2 ⟨b2, rfl, hb2, hl2⟩; have HQ2 := hid (HQ1.out.trans (hl2.mono (by have := HQ1.out.size; have := HSZ.out; omega))); have HN2 := hid hb2; clear hb2 hl2 c0 c1 c2 c3 c4 c5 c6 c7 c8 d0 d1 d2 d3 d4 d5 d6 d7 d8 d9 d10 d11 d12 d13))
  · cases b2 with
    | false =>
      go_wp2
      go_ret
      exact ⟨rfl, HLOW.out _ HQ2.out⟩
    | true =>
      have hn1 := HN1.out (by first | assumption | simp_all)
      have hn2 := HN2.out rfl
      have HNN := hid (And.intro hn1 hn2)
      clear hn1 hn2 HN1 HN2 HQ1 HF2
      obtain ⟨⟨c0, c1, c2, c3, c4, c5, c6, c7, c8⟩, _⟩ := HBOX.out _ HQ2.out
      have hsr := showRe_any (HR.out _ HQ2.out).1 (HR.out _ HQ2.out).2.1 HT.out.1 HT.out.2.1 (fun h => by have := reD_le 200 r (checkM_zero h); omega) (fun h => by have := reW_len 200 r (checkM_zero h); have := HNN.out.1; omega)
      have HC := hid (showRe_cases r)
      generalize showRe r = ae at *
      obtain ⟨a, e⟩ := ae
      go_upto_if 29 with (go_at_call 17; refine hsr.mono ?_; clear hsr; rintro e' W3 ⟨rfl, hl3⟩; have HQ3 := hid (HQ2.out.trans (hl3.mono (by have := HQ2.out.size; have := HSZ.out; omega))); clear hl3 c0 c1 c2 c3 c4 c5 c6 c7 c8)
      go_cut [] (fun wx => Below (w.heap.size + 2) W0 wx)
      case first =>
        obtain ⟨⟨c0, c1, c2, c3, c4, c5, c6, c7, c8⟩, _⟩ := HBOX.out _ HQ3.out
        rcases HC.out with ⟨hae, hck, hd, hl⟩ | ⟨e2, hae, hne, hck⟩
        · obtain ⟨rfl, rfl⟩ : a = reW setS r ∧ e = 0 := by injection hae with h1 h2; exact ⟨h1, h2⟩
          have hpb := parse_back (checkM_zero hck) HT.out.2.1 hd hl
          have hss : (⟨(reW setS r).toArray⟩ : ByteArray).size ≤ 65536 := by rw [str_size]; exact hl
          have HP := hid hpb
          clear HC hae hck hd hl hpb
          go_upto_region 6 with (go_at_call 18; refine (parse_any _ W3 hss).mono ?_; rintro e' W4 hp; obtain ⟨hb4, k4, x4, t4, ad4, n4, cap4, mn4, mx4, rfl, hr4⟩ := hp.good HP.out; have HQ4 := hid (HQ3.out.trans (hb4.mono (by have := HQ3.out.size; have := HSZ.out; omega))); have HR4 := hid hr4; have HS4 := hid hb4.size; clear hp hr4 hb4 c0 c1 c2 c3 c4 c5 c6 c7 c8)
          have HG4 := hid (ReG.ofIn (HR4.out.frame (F' := fun g => g < W4.heap.size) (fun _ _ h => h) (fun _ _ _ => rfl)))
          have hb5 : (W4.alloc (.cells (reC k4 x4 t4 (.slice ad4 n4 cap4) mn4 mx4) 33)).heap[W4.heap.size]? = some (.cells (reC k4 x4 t4 (.slice ad4 n4 cap4) mn4 mx4) 33 (0, 0)) := heap_alloc_new _ _
          have hs5 : (W4.alloc (.cells (reC k4 x4 t4 (.slice ad4 n4 cap4) mn4 mx4) 33)).heap.size = W4.heap.size + 1 := by simp
          have HQ5 := hid (HQ4.out.alloc (by have := HQ4.out.size; have := HSZ.out; omega) (.cells (reC k4 x4 t4 (.slice ad4 n4 cap4) mn4 mx4) 33))
          have HG5 := hid (HG4.out.frame (F' := fun g => g < W4.heap.size) (w' := W4.alloc (.cells (reC k4 x4 t4 (.slice ad4 n4 cap4) mn4 mx4) 33)) (fun _ h => h) (fun g hg _ => alloc_old hg))
          obtain ⟨e0, e1, e2, e3, e4, e5, e6, e7, e8⟩ := nine_of hb5
          obtain ⟨⟨c0, c1, c2, c3, c4, c5, c6, c7, c8⟩, _⟩ := HBOX.out _ HQ5.out
          have hsame := same_g _ r (Nat.lt_succ_self _) (fun g => g < W4.heap.size) (fun g => g < w.heap.size) _ _ (W4.alloc (.cells (reC k4 x4 t4 (.slice ad4 n4 cap4) mn4 mx4) 33)) (fun g hg => by rw [hs5]; exact Nat.lt_succ_of_lt hg) (HR.out _ HQ5.out).1 HG5.out (HR.out _ HQ5.out).2.1
          generalize W4.alloc (.cells (reC k4 x4 t4 (.slice ad4 n4 cap4) mn4 mx4) 33) = W5 at *
          clear hb5
          go_wp2_with (go_at_call 19; refine hsame.mono ?_; clear hsame; rintro e' W6 ⟨rfl, hb6⟩)
          go_meet
          case rel => exact HQ5.out.trans (hb6.mono (by have := HQ5.out.size; have := HSZ.out; omega))
        · obtain ⟨rfl, rfl⟩ : a = [] ∧ e = e2 := by injection hae with h1 h2; exact ⟨h1, h2⟩
          have hcc := check_any (HR.out _ HQ3.out).1 (HR.out _ HQ3.out).2.1 HT.out.1
          by_cases hc0 : checkM r = 0
          · rw [hc0] at hcc
            have he2 := hck hc0
            clear HC hae hck hc0
            rcases he2 with rfl | rfl
            · go_wp2_with (go_at_call 20; refine hcc.mono ?_; clear hcc; rintro e' W4 ⟨rfl, hb4⟩)
              go_meet
              case rel => exact HQ3.out.trans (hb4.mono (by have := HQ3.out.size; have := HSZ.out; omega))
            · go_wp2_with (go_at_call 20; refine hcc.mono ?_; clear hcc; rintro e' W4 ⟨rfl, hb4⟩)
              go_meet
              case rel => exact HQ3.out.trans (hb4.mono (by have := HQ3.out.size; have := HSZ.out; omega))
          · have hcq : (checkM r == 0) = false := by simpa using hc0
            have heq : (e == 0) = false := by simpa using hne
            clear HC hae hck hc0 hne
            generalize checkM r = ck at *
            go_wp2_with (go_at_call 20; refine hcc.mono ?_; clear hcc; rintro e' W4 ⟨rfl, hb4⟩)
            go_meet
            case rel => exact HQ3.out.trans (hb4.mono (by have := HQ3.out.size; have := HSZ.out; omega))
      case rest =>
        have HQ4 := hid hcut
        clear hcut HC
        obtain ⟨_, ⟨d0, d1, d2, d3, d4, d5, d6, d7, d8, d9, d10, d11, d12, d13⟩⟩ := HBOX.out _ HQ4.out
        have hsm := showMp_any (HR.out _ HQ4.out).1 (HR.out _ HQ4.out).2.2 HT.out.2.2.1 HT.out.2.2.2 (fun h => by have := mpD_le 200 m (okMp_of h); omega) (fun h => by have := mpW_len 200 m (okMp_of h); have := HNN.out.2; omega)
        rcases showMp_cases m with ⟨hae, hok, hd, hl⟩ | ⟨e2, hae, hne⟩
        · rw [hae] at hsm
          obtain ⟨tl, ta, hx1, hx2, hx3⟩ := mp_back hok HT.out.2.2.2 hd hl
          have hss : (⟨(mpW setS m).toArray⟩ : ByteArray).size ≤ 65536 := by rw [str_size]; exact hl
          have HPM := hid (fun W => parseMap_any _ W hss hx1 hx2 hx3)
          clear hae hok hd hl hx1 hx2 hx3 hss
          go_upto_region 13 with (go_at_call 21; refine hsm.mono ?_; clear hsm; rintro e' W5 ⟨rfl, hl5⟩; have HQ5 := hid (HQ4.out.trans (hl5.mono (by have := HQ4.out.size; have := HSZ.out; omega))); clear hl5 d0 d1 d2 d3 d4 d5 d6 d7 d8 d9 d10 d11 d12 d13)
          go_upto_region 14 with (go_at_call 22; refine (HPM.out W5).mono ?_; rintro e' W6 ⟨hb6, cs6, rfl, hr6⟩; obtain ⟨z, rfl⟩ := hr6.mw; have HQ6 := hid (HQ5.out.trans (hb6.mono (by have := HQ5.out.size; have := HSZ.out; omega))); have HR6 := hid hr6; clear hr6 hb6)
          have HG6 := hid (MpG.ofIn (HR6.out.frame (F' := fun g => g < W6.heap.size) (fun _ _ h => h) (fun _ _ _ => rfl)))
          have hb7 : (W6.alloc (.cells z.cs 36)).heap[W6.heap.size]? = some (.cells z.cs 36 (0, 0)) := heap_alloc_new _ _
          have hs7 : (W6.alloc (.cells z.cs 36)).heap.size = W6.heap.size + 1 := by simp
          have HQ7 := hid (HQ6.out.alloc (by have := HQ6.out.size; have := HSZ.out; omega) (.cells z.cs 36))
          have HG7 := hid (HG6.out.frame (F' := fun g => g < W6.heap.size) (w' := W6.alloc (.cells z.cs 36)) (fun _ h => h) (fun g hg _ => alloc_old hg))
          have HB7 := hid hb7
          have HS7 := hid hs7
          clear hb7 hs7
          generalize W6.alloc (.cells z.cs 36) = W7 at *
          go_wp2_with (first | (go_at_call 14; refine (awake8_any _).mono ?_; rintro e' W8 ⟨rfl, hb8⟩; have HQ8 := hid (HQ7.out.trans (hb8.mono (by have := HQ7.out.size; have := HSZ.out; omega))); obtain ⟨b0, b1, b2, b3, b4, b5, b6, b7, b8, b9, b10, b11, b12, b13⟩ := four10_of ((hb8.block W6.heap.size (by rw [HS7.out]; omega)).trans HB7.out); obtain ⟨_, ⟨d0, d1, d2, d3, d4, d5, d6, d7, d8, d9, d10, d11, d12, d13⟩⟩ := HBOX.out _ HQ8.out; have HG8 := hid (HG7.out.below (fun g hg => (by have := HS7.out; omega : g < W7.heap.size)) hb8); have HS8 := hid hb8.size; clear hb8; have hsame := samemap_g _ m (Nat.lt_succ_self _) (fun g => g < W6.heap.size) (fun g => g < w.heap.size) z y W8 (fun g hg => by have := HS8.out; have := HS7.out; omega) (HR.out _ HQ8.out).1 HG8.out (HR.out _ HQ8.out).2.2) | (go_at_call 23; refine hsame.mono ?_; clear hsame; rintro e' W9 ⟨rfl, hb9⟩))
          go_ret
          exact ⟨rfl, HLOW.out _ (HQ8.out.trans (hb9.mono (by have := HQ8.out.size; have := HSZ.out; omega)))⟩
        · rw [hae] at hsm
          have hnq : (e2 != 0) = true := by simpa using hne
          clear hae hne
          go_wp2_with (first | (go_at_call 21; refine hsm.mono ?_; clear hsm; rintro e' W5 ⟨rfl, hl5⟩; have HQ5 := hid (HQ4.out.trans (hl5.mono (by have := HQ4.out.size; have := HSZ.out; omega))); clear hl5 d0 d1 d2 d3 d4 d5 d6 d7 d8 d9 d10 d11 d12 d13) | (go_at_call 14; refine (awake8_any _).mono ?_; rintro e' W6 ⟨rfl, hb6⟩))
          go_ret
          exact ⟨rfl, HLOW.out _ (HQ5.out.trans (hb6.mono (by have := HQ5.out.size; have := HSZ.out; omega)))⟩
  · go_wp2
    go_ret
    exact ⟨rfl, HLOW.out _ HQ1.out⟩
end Go.Proofs.YtfljcfdfgojdoaaGreatDoor.Sh
