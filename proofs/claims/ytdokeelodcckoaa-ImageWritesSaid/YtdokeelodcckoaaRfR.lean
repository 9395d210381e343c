/-
  ImageWrites returns true: its walk.
-/
import Derived.Test.YtdokeelodcckoaaRg7
import Derived.Test.YtdokeelodcckoaaImgAw
import Derived.Test.YtdokeelodcckoaaImgFf
namespace Go.Proofs.Ytdokeelodcckoaa.Im
open Go.RowKit Go.Lib

set_option maxRecDepth 100000 in
set_option maxHeartbeats 8000000 in
theorem writes_walk {w : World} {a b vb : Value} {x : Img} {bl : List B} (hx : ImgIn (fun g => g < w.heap.size) w a b x) (hrx : ∀ r ∈ x.rules, RuleLens r) (hsx : ImgSum x) (hvb : BytesC (fun g => g < w.heap.size) w vb bl) :
    Calls Try.prog 3 #[.agg #[a, b], vb] w (AwPost w) := by
  have HX := hid hx
  obtain ⟨ada, cpa, rfl, _, _⟩ := hx.rules
  obtain ⟨adb, cpb, rfl, _, _⟩ := hx.classes
  have HVB := hid hvb
  obtain ⟨pb, nb, rfl, hvb1, hvb2, _⟩ := hvb
  unfold maxLen at hvb2
  clear hx
  have HRX := hid hrx
  have HSX := hid hsx
  clear hrx hsx
  go_enter Try.func3, Try.ntmps3
  go_wp2_with fail
  generalize hW0 : w.alloc (.cells #[.slice ada x.rules.length cpa, .slice adb x.classes.length cpb] 25) = W0
  have HDB := hid (show W0.heap[w.heap.size]? = some (.cells #[.slice ada x.rules.length cpa, .slice adb x.classes.length cpb] 25 (0, 0)) by rw [← hW0]; exact heap_alloc_new _ _)
  have hz0 : W0.heap.size = w.heap.size + 1 := by rw [← hW0]; simp
  have hB0 : Below w.heap.size w W0 := by rw [← hW0]; exact (Below.refl _ _).alloc (Nat.le_refl _) _
  have HXB := hid (show ∀ W : World, Below W0.heap.size W0 W → ImgIn (fun g => g < w.heap.size) W (.slice ada x.rules.length cpa) (.slice adb x.classes.length cpb) x from fun W hW => HX.out.frame (fun _ h => h) (fun g hg _ => (hW.block g (by omega)).trans (hB0.block g hg)))
  have HBB := hid (show ∀ W : World, Below W0.heap.size W0 W → BytesIn (fun g => g < w.heap.size) W (.slice pb bl.length nb) bl from fun W hW => (HVB.out.frame (fun _ h => h) (fun g hg _ => (hW.block g (by omega)).trans (hB0.block g hg))).bytes)
  have CX := hid (show ∀ W : World, Below W0.heap.size W0 W → (W.cell? ⟨w.heap.size, 0, none⟩ = some (.slice ada x.rules.length cpa) ∧ W.cell? ⟨w.heap.size, 1, none⟩ = some (.slice adb x.classes.length cpb)) from fun W hW => twocells ((hW.block _ (by omega)).trans HDB.out))
  have FW := hid (show ∀ W : World, Below W0.heap.size W0 W → ∀ g, g < w.heap.size → g < W.heap.size from fun W hW g hg => by have := hW.size; omega)
  clear hW0
  refine (few_any (HXB.out W0 (Below.refl _ _)) (FW.out W0 (Below.refl _ _))).mono ?_
  rintro e w1 ⟨⟨m1, rfl, hm1⟩, hb1⟩
  have hB1 := hB0.trans (hb1.mono (by omega))
  cases m1
  · go_wp2
    go_ret
    exact ⟨rfl, hB1⟩
  · have HLX := hid (show ImgLens x from ⟨HRX.out, fun c hc => Nat.le_trans (hm1 rfl c hc) (by omega)⟩)
    clear hm1
    by_cases h6 : 1000 < bl.length
    · have h6' : (1000 : Int) < bl.length := by omega
      go_wp2
      go_ret
      exact ⟨rfl, hB1⟩
    · have h6' : ¬ (1000 : Int) < bl.length := by omega
      have AWK := hid (show ∀ W : World, Below w.heap.size w W → Calls Try.prog 11 #[] W (fun e W' => e = .returned (.bool true) ∧ Below w.heap.size w W' ∧ Below W.heap.size W W') from fun W hW => (awake_any W).mono fun e W' h => ⟨h.1, hW.trans (h.2.mono hW.size), h.2⟩)
      obtain ⟨q0, q1⟩ := CX.out w1 hb1
      go_wp2_with fail
      refine (encode_any (HXB.out w1 hb1) (FW.out w1 hb1) HLX.out).mono ?_
      rintro e w2 ⟨hc2, va, rfl, hva⟩
      have hb2 := hb1.trans (hc2.mono hb1.size)
      clear q0 q1
      obtain ⟨q0, q1⟩ := CX.out w2 hb2
      obtain ⟨al, ee, hen⟩ : ∃ al ee, encode nameOk x = (al, ee) := ⟨_, _, rfl⟩
      rw [hen] at hva ⊢
      dsimp only at hva ⊢
      have HEN := hid hen
      have HVA := hid (hva.lt.frame (F' := fun q => q < w2.heap.size) (w' := w2) (fun _ h => h.2) (fun _ _ _ => rfl))
      obtain ⟨pa, na, rfl, _, _, _⟩ := hva
      clear hen
      go_wp2_with fail
      refine (encodeR_any (HXB.out w2 hb2) (FW.out w2 hb2) HLX.out HSX.out).mono ?_
      rintro e w3 ⟨hc3, vc, rfl, hvc⟩
      have hb3 := hb2.trans (hc3.mono hb2.size)
      have hB3 := hB0.trans (hb3.mono (by omega))
      clear q0 q1
      rw [HEN.out] at hvc ⊢
      dsimp only at hvc ⊢
      have HVC := hid (hvc.lt.frame (F' := fun q => q < w3.heap.size) (w' := w3) (fun _ h => h.2) (fun _ _ _ => rfl))
      have HVA3 := hid (HVA.out.frame (F' := fun q => q < w3.heap.size) (w' := w3) (fun q hq => Nat.lt_of_lt_of_le hq hc3.size) (fun q hq _ => hc3.block q hq))
      obtain ⟨pc, nc, rfl, _, _, _⟩ := hvc
      clear HVA
      have FACTS := hid (show ∀ W : World, Below w3.heap.size w3 W → (fun W => W.cell? ⟨w.heap.size, 0, none⟩ = some (.slice ada x.rules.length cpa) ∧ W.cell? ⟨w.heap.size, 1, none⟩ = some (.slice adb x.classes.length cpb) ∧ (convert 26 9 (.slice pa al.length na)).run Try.prog W = .ok (.string ⟨al.toArray⟩) W ∧ (convert 26 9 (.slice pc al.length nc)).run Try.prog W = .ok (.string ⟨al.toArray⟩) W) W from fun W hW => by
        have hbW := hb3.trans (hW.mono hb3.size)
        obtain ⟨q0, q1⟩ := CX.out W hbW
        exact ⟨q0, q1, bytes_str (HVA3.out.bytes.frame (w' := W) (fun _ h => h) (fun q hq _ => hW.block q hq)), bytes_str (HVC.out.bytes.frame (w' := W) (fun _ h => h) (fun q hq _ => hW.block q hq))⟩)
      go_upto_region 5 with fail
      go_region_held3 (fun W => W.cell? ⟨w.heap.size, 0, none⟩ = some (.slice ada x.rules.length cpa) ∧ W.cell? ⟨w.heap.size, 1, none⟩ = some (.slice adb x.classes.length cpb) ∧ (convert 26 9 (.slice pa al.length na)).run Try.prog W = .ok (.string ⟨al.toArray⟩) W ∧ (convert 26 9 (.slice pc al.length nc)).run Try.prog W = .ok (.string ⟨al.toArray⟩) W) (first | exact FACTS.out _ hq7 | exact FACTS.out _ hq6 | exact FACTS.out _ hq5 | exact FACTS.out w3 (Below.refl _ _) | exact FACTS.out _ (Below.refl _ _).drew) (first | (go_at_call 11; refine (AWK.out _ hB3.drew).mono ?_; rintro e w5 ⟨rfl, hb5, hbb⟩; have HB5 := hid hb5; have hq5 : Below w3.heap.size w3 w5 := (Below.refl w3.heap.size w3).drew.trans hbb; clear hb5 hbb) | (go_at_call 12; refine (imgCheck_any (HXB.out w5 (hb3.trans (hq5.mono hb3.size))) (FW.out w5 (hb3.trans (hq5.mono hb3.size))) HLX.out).mono ?_; rintro e w6 ⟨rfl, hb6⟩; have hq6 : Below w3.heap.size w3 w6 := hq5.trans (hb6.mono hq5.size); clear hb6) | (go_at_call 13; refine (refCheck_any (HXB.out w6 (hb3.trans (hq6.mono hb3.size))) (FW.out w6 (hb3.trans (hq6.mono hb3.size))) HLX.out HSX.out).mono ?_; rintro e w7 ⟨rfl, hb7⟩; have hq7 : Below w3.heap.size w3 w7 := hq6.trans (hb7.mono hq6.size); clear hb7) | (go_at_call 14; refine (sum_any (HBB.out w7 (hb3.trans (hq7.mono hb3.size)))).mono ?_; rintro e w8 ⟨rfl, rfl⟩) | (go_at_call 15; refine (sumR_any (HBB.out w7 (hb3.trans (hq7.mono hb3.size)))).mono ?_; rintro e w8 ⟨rfl, rfl⟩))
      all_goals
        go_wp2
        go_ret
        exact ⟨by first | rfl | simp, hB3.trans (hq7.mono hB3.size)⟩
end Go.Proofs.Ytdokeelodcckoaa.Im
