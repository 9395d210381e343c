/-
  ImageSame returns true: its walk.
-/
import Derived.Test.YtdokeelodcckoaaImgSd
import Derived.Test.YtdokeelodcckoaaImgSu
namespace Go.Proofs.Ytdokeelodcckoaa.Im
open Go.RowKit Go.Lib

theorem ruleOk_lens {r : Rule} (h : ruleOk r = true) : r.by_.outs.length ≤ r.by_.next.length := by
  simp only [ruleOk, Bool.and_eq_true] at h
  obtain ⟨_, h4⟩ := h
  cases hm : r.mapped
  · rw [hm] at h4
    simp only [Bool.false_eq_true, if_false, Bool.and_eq_true, sqNone, decide_eq_true_eq] at h4
    omega
  · rw [hm] at h4
    simp only [if_true, Bool.and_eq_true, sqOk, decide_eq_true_eq] at h4
    omega
theorem RuleEq.eq {r r' : Rule} (h : RuleEq r r') (hl : r.by_.outs.length ≤ r.by_.next.length) : r = r' := by
  obtain ⟨a, b, c, o, m, q⟩ := r
  obtain ⟨a', b', c', o', m', q'⟩ := r'
  obtain ⟨h1, h2, h3, h4, h5, h6⟩ := h
  have h7 := h3.eq hl
  simp only at h1 h2 h4 h5 h6 h7
  subst h1
  subst h2
  subst h4
  subst h5
  subst h6
  subst h7
  rfl
theorem ImgEq.refl (x : Img) : ImgEq x x := ⟨rfl, rfl, fun i r r' h1 h2 => by
  rw [h1] at h2
  cases h2
  exact ⟨rfl, rfl, SqEq.refl _, rfl, rfl, rfl⟩, rfl⟩
theorem ImgEq.eq {x y : Img} (h : ImgEq x y) (hx : ∀ r ∈ x.rules, ruleOk r = true) : x = y := by
  obtain ⟨rs, cs⟩ := x
  obtain ⟨rs', cs'⟩ := y
  obtain ⟨h1, h2, h3, h4⟩ := h
  simp only at h1 h2 h3 h4 hx
  subst h4
  have : rs = rs' := by
    refine List.ext_getElem h1 fun i hi hi' => ?_
    exact (h3 i _ _ (List.getElem?_eq_getElem hi) (List.getElem?_eq_getElem hi')).eq (ruleOk_lens (hx _ (List.getElem_mem hi)))
  rw [this]
theorem imgOk_rules {ok : List B → Bool} {x : Img} (h : imgOk ok x = true) : ∀ r ∈ x.rules, ruleOk r = true := by
  simp only [imgOk, Bool.and_eq_true, List.all_eq_true] at h
  exact h.1.1.2
theorem enc_none {ok : List B → Bool} {x : Img} {a : List B} {e : Int} (h : encode ok x = (a, e)) (he : e ≠ 0) : a = [] := by
  unfold encode at h
  split at h
  · split at h
    · cases h; rfl
    · cases h; exact absurd rfl he
  · cases h; rfl

set_option maxRecDepth 100000 in
set_option maxHeartbeats 8000000 in
theorem same_walk {w : World} {a b c d : Value} {x y : Img} (hx : ImgIn (fun g => g < w.heap.size) w a b x) (hy : ImgIn (fun g => g < w.heap.size) w c d y) (hrx : ∀ r ∈ x.rules, RuleLens r) (hry : ∀ r ∈ y.rules, RuleLens r) :
    Calls Try.prog 7 #[.agg #[a, b], .agg #[c, d]] w (AwPost w) := by
  have HX := hid hx
  have HY := hid hy
  obtain ⟨ada, cpa, rfl, _, _⟩ := hx.rules
  obtain ⟨adb, cpb, rfl, _, _⟩ := hx.classes
  obtain ⟨adc, cpc, rfl, _, _⟩ := hy.rules
  obtain ⟨add, cpd, rfl, _, _⟩ := hy.classes
  clear hx hy
  have HRX := hid hrx
  have HRY := hid hry
  clear hrx hry
  go_enter Try.func7, Try.ntmps7
  go_wp2_with fail
  generalize hW0 : (w.alloc (.cells #[.slice ada x.rules.length cpa, .slice adb x.classes.length cpb] 25)).alloc (.cells #[.slice adc y.rules.length cpc, .slice add y.classes.length cpd] 25) = W0
  have HDB := hid (show W0.heap[w.heap.size]? = some (.cells #[.slice ada x.rules.length cpa, .slice adb x.classes.length cpb] 25 (0, 0)) by rw [← hW0]; exact heap_alloc2_old _ _ _)
  have HDC := hid (show W0.heap[w.heap.size + 1]? = some (.cells #[.slice adc y.rules.length cpc, .slice add y.classes.length cpd] 25 (0, 0)) by rw [← hW0]; exact heap_alloc2_new _ _ _)
  have hz0 : W0.heap.size = w.heap.size + 2 := by rw [← hW0]; simp
  have hB0 : Below w.heap.size w W0 := by rw [← hW0]; exact ((Below.refl _ _).alloc (Nat.le_refl _) _).alloc (by simp) _
  have HXB := hid (show ∀ W : World, Below W0.heap.size W0 W → ImgIn (fun g => g < w.heap.size) W (.slice ada x.rules.length cpa) (.slice adb x.classes.length cpb) x from fun W hW => HX.out.frame (fun _ h => h) (fun g hg _ => (hW.block g (by omega)).trans (hB0.block g hg)))
  have HYB := hid (show ∀ W : World, Below W0.heap.size W0 W → ImgIn (fun g => g < w.heap.size) W (.slice adc y.rules.length cpc) (.slice add y.classes.length cpd) y from fun W hW => HY.out.frame (fun _ h => h) (fun g hg _ => (hW.block g (by omega)).trans (hB0.block g hg)))
  have CX := hid (show ∀ W : World, Below W0.heap.size W0 W → (W.cell? ⟨w.heap.size, 0, none⟩ = some (.slice ada x.rules.length cpa) ∧ W.cell? ⟨w.heap.size, 1, none⟩ = some (.slice adb x.classes.length cpb)) ∧ (W.cell? ⟨w.heap.size + 1, 0, none⟩ = some (.slice adc y.rules.length cpc) ∧ W.cell? ⟨w.heap.size + 1, 1, none⟩ = some (.slice add y.classes.length cpd)) from fun W hW => ⟨twocells ((hW.block _ (by omega)).trans HDB.out), twocells ((hW.block _ (by omega)).trans HDC.out)⟩)
  have FW := hid (show ∀ W : World, Below W0.heap.size W0 W → ∀ g, g < w.heap.size → g < W.heap.size from fun W hW g hg => by have := hW.size; omega)
  clear hW0
  refine (few_any (HXB.out W0 (Below.refl _ _)) (FW.out W0 (Below.refl _ _))).mono ?_
  rintro e w1 ⟨⟨m1, rfl, hm1⟩, hb1⟩
  have hB1 := hB0.trans (hb1.mono (by omega))
  obtain ⟨⟨q0, q1⟩, q2, q3⟩ := CX.out w1 hb1
  cases m1
  · go_wp2
    go_ret
    exact ⟨rfl, hB1⟩
  · have HLX := hid (show ImgLens x from ⟨HRX.out, fun c hc => Nat.le_trans (hm1 rfl c hc) (by omega)⟩)
    clear hm1
    go_wp2_with fail
    refine (few_any (HYB.out w1 hb1) (FW.out w1 hb1)).mono ?_
    rintro e w2 ⟨⟨m2, rfl, hm2⟩, hc2⟩
    have hb2 := hb1.trans (hc2.mono hb1.size)
    have hB2 := hB0.trans (hb2.mono (by omega))
    clear q0 q1 q2 q3
    obtain ⟨⟨q0, q1⟩, q2, q3⟩ := CX.out w2 hb2
    cases m2
    · go_wp2
      go_ret
      exact ⟨rfl, hB2⟩
    · have HLY := hid (show ImgLens y from ⟨HRY.out, fun c hc => Nat.le_trans (hm2 rfl c hc) (by omega)⟩)
      clear hm2
      go_wp2_with fail
      refine (encode_any (HXB.out w2 hb2) (FW.out w2 hb2) HLX.out).mono ?_
      rintro e w3 ⟨hc3, va, rfl, hva⟩
      have hb3 := hb2.trans (hc3.mono hb2.size)
      clear q0 q1 q2 q3
      obtain ⟨⟨q0, q1⟩, q2, q3⟩ := CX.out w3 hb3
      have HVA := hid hva.lt
      obtain ⟨pa, na, rfl, _, _, _⟩ := hva
      go_wp2_with fail
      refine (encode_any (HYB.out w3 hb3) (FW.out w3 hb3) HLY.out).mono ?_
      rintro e w4 ⟨hc4, vb, rfl, hvb⟩
      have hb4 := hb3.trans (hc4.mono hb3.size)
      clear q0 q1 q2 q3
      have HVB := hid hvb.lt
      obtain ⟨pb, nb, rfl, _, _, _⟩ := hvb
      obtain ⟨al, ee, hen⟩ : ∃ al ee, encode nameOk x = (al, ee) := ⟨_, _, rfl⟩
      obtain ⟨bl, ff, hfn⟩ : ∃ bl ff, encode nameOk y = (bl, ff) := ⟨_, _, rfl⟩
      have HVA2 := hid (show BytesC (fun q => q < w3.heap.size) w3 (.slice pa al.length na) al by have h := HVA.out; rw [hen] at h; exact h.frame (fun _ h => h.2) (fun _ _ _ => rfl))
      have HVB2 := hid (show BytesC (fun q => q < w4.heap.size) w4 (.slice pb bl.length nb) bl by have h := HVB.out; rw [hfn] at h; exact h.frame (fun _ h => h.2) (fun _ _ _ => rfl))
      rw [hen, hfn]
      dsimp only
      have HEN := hid hen
      have HFN := hid hfn
      clear hen hfn HVA HVB
      have hB4 := hB0.trans (hb4.mono (by omega))
      have AWK := hid (show ∀ W : World, Below w.heap.size w W → Calls Try.prog 11 #[] W (fun e W' => e = .returned (.bool true) ∧ Below w.heap.size w W' ∧ Below W.heap.size W W') from fun W hW => (awake_any W).mono fun e W' h => ⟨h.1, hW.trans (h.2.mono hW.size), h.2⟩)
      by_cases he : ee = 0
      · subst he
        by_cases hf : ff = 0
        · subst hf
          have HVA4 := hid (HVA2.out.frame (F' := fun q => q < w4.heap.size) (w' := w4) (fun q hq => Nat.lt_of_lt_of_le hq hc4.size) (fun q hq _ => hc4.block q hq))
          have HIFF := hid (show (al = bl) ↔ x = y from same_bytes nameOk_le HEN.out HFN.out)
          have HEQ := hid (show ∀ m : Bool, (m = true ↔ ImgEq x y) → m = decide (al = bl) from fun m h => by
            have hok := imgOk_rules (encode_ok HEN.out).1
            have h2 : m = true ↔ al = bl := h.trans ⟨fun e => HIFF.out.2 (e.eq hok), fun e => by have := HIFF.out.1 e; subst this; exact ImgEq.refl _⟩
            cases m with
            | true => exact (decide_eq_true (h2.1 rfl)).symm
            | false => exact (decide_eq_false (fun e => by have := h2.2 e; cases this)).symm)
          have FACTS := hid (show ∀ W : World, Below w4.heap.size w4 W → (fun W => W.cell? ⟨w.heap.size, 0, none⟩ = some (.slice ada x.rules.length cpa) ∧ W.cell? ⟨w.heap.size, 1, none⟩ = some (.slice adb x.classes.length cpb) ∧ W.cell? ⟨w.heap.size + 1, 0, none⟩ = some (.slice adc y.rules.length cpc) ∧ W.cell? ⟨w.heap.size + 1, 1, none⟩ = some (.slice add y.classes.length cpd) ∧ (convert 26 9 (.slice pa al.length na)).run Try.prog W = .ok (.string ⟨al.toArray⟩) W ∧ (convert 26 9 (.slice pb bl.length nb)).run Try.prog W = .ok (.string ⟨bl.toArray⟩) W) W from fun W hW => by
            have hbW := hb4.trans (hW.mono hb4.size)
            obtain ⟨⟨q0, q1⟩, q2, q3⟩ := CX.out W hbW
            exact ⟨q0, q1, q2, q3, bytes_str (HVA4.out.bytes.frame (w' := W) (fun _ h => h) (fun q hq _ => hW.block q hq)), bytes_str (HVB2.out.bytes.frame (w' := W) (fun _ h => h) (fun q hq _ => hW.block q hq))⟩)
          go_upto_region 7 with fail
          go_region_held3 (fun W => W.cell? ⟨w.heap.size, 0, none⟩ = some (.slice ada x.rules.length cpa) ∧ W.cell? ⟨w.heap.size, 1, none⟩ = some (.slice adb x.classes.length cpb) ∧ W.cell? ⟨w.heap.size + 1, 0, none⟩ = some (.slice adc y.rules.length cpc) ∧ W.cell? ⟨w.heap.size + 1, 1, none⟩ = some (.slice add y.classes.length cpd) ∧ (convert 26 9 (.slice pa al.length na)).run Try.prog W = .ok (.string ⟨al.toArray⟩) W ∧ (convert 26 9 (.slice pb bl.length nb)).run Try.prog W = .ok (.string ⟨bl.toArray⟩) W) (first | exact FACTS.out w4 (Below.refl _ _) | exact FACTS.out _ (Below.refl _ _).drew | exact FACTS.out _ hq5 | exact FACTS.out _ hq6) (first | (go_at_call 11; refine (AWK.out _ hB4.drew).mono ?_; rintro e w5 ⟨rfl, hb5, hbb⟩; have HB5 := hid hb5; have hq5 : Below w4.heap.size w4 w5 := (Below.refl w4.heap.size w4).drew.trans hbb; clear hb5 hbb) | (go_at_call 18; refine (img_same (HXB.out w5 (hb4.trans (hq5.mono hb4.size))) (HYB.out w5 (hb4.trans (hq5.mono hb4.size))) (FW.out w5 (hb4.trans (hq5.mono hb4.size))) (FW.out w5 (hb4.trans (hq5.mono hb4.size)))).mono ?_; rintro e w6 ⟨⟨m6, rfl, hm6⟩, hb6⟩; obtain rfl : m6 = decide (al = bl) := HEQ.out m6 hm6; clear hm6; have hq6 : Below w4.heap.size w4 w6 := hq5.trans (hb6.mono hq5.size); have HB6 := hid (HB5.out.trans (hb6.mono HB5.out.size)); clear hb6))
          all_goals
            go_wp2
            go_ret
            exact ⟨by first | rfl | (by_cases h : al = bl <;> simp [h]), HB6.out⟩
        · obtain rfl : bl = [] := enc_none HFN.out hf
          go_wp2_with fail
          refine (AWK.out w4 hB4).mono ?_
          rintro e w5 ⟨rfl, hb5, _⟩
          go_wp2
          go_ret
          exact ⟨by first | rfl | simp, hb5⟩
      · obtain rfl : al = [] := enc_none HEN.out he
        go_wp2_with fail
        refine (AWK.out w4 hB4).mono ?_
        rintro e w5 ⟨rfl, hb5, _⟩
        go_wp2
        go_ret
        exact ⟨by first | rfl | simp, hb5⟩
end Go.Proofs.Ytdokeelodcckoaa.Im
