/-
  The references' transducers and rules: whittleref21.Right, whittleref24.Right.
-/
import Derived.Test.YtdokeelodcckoaaRg3
import Derived.Test.YtdokeelodcckoaaImgG
import Derived.Test.YtdokeelodcckoaaImgH
import Derived.Test.YtdokeelodcckoaaImgRa
namespace Go.Proofs.Ytdokeelodcckoaa.Im
open Go.RowKit Go.Lib

set_option maxRecDepth 100000 in
set_option maxHeartbeats 8000000 in
theorem seqRight_any {F : Nat → Prop} {w : World} {f a b c d : Value} {q : Sq} (hq : SqIn F w f a b c d q) (hF : ∀ g, F g → g < w.heap.size) (hfr : q.front.length ≤ 9223372036854775807) (hta : ∀ t ∈ q.tail, t.length ≤ 9223372036854775807) (hou : ∀ l ∈ q.outs, ∀ o ∈ l, o.length ≤ 9223372036854775807) :
    Calls Try.prog 62 #[.agg #[f, a, b, c, d]] w fun e w' => e = .returned (.bool (sqOk q)) ∧ Below w.heap.size w w' := by
  obtain ⟨hq0, hq1, hq2, hq3, hq4⟩ := hq
  obtain rfl : f = .string ⟨q.front.toArray⟩ := hq0
  obtain ⟨ad1, cp1, rfl, hm1, hr1⟩ := hq1
  obtain ⟨ad2, cp2, rfl, hm2, hr2⟩ := hq2
  obtain ⟨ad3, cp3, rfl, hm3, hr3⟩ := hq3
  obtain ⟨ad4, cp4, rfl, hm4, hr4⟩ := hq4
  unfold maxLen at hm1 hm2 hm3 hm4
  have HR1 := hid hr1
  have HR2 := hid hr2
  have HR3 := hid hr3
  have HR4 := hid hr4
  have HTA := hid hta
  have HOU := hid hou
  have HFF := hid hF
  clear hr1 hr2 hr3 hr4 hta hou hF
  have no : ∀ (b : Bool), sqOk q = b → b = false → Hid (sqOk q = false) := fun b h1 h2 => hid (h1.trans h2)
  have ring : sqOk q = sqOk q := rfl
  have NO := hid no
  clear no ring
  by_cases h1 : 1024 < q.next.length
  · have hno := NO.out _ rfl (by simp [sqOk]; omega)
    have h1' : (1024 : Int) < q.next.length := by omega
    clear h1
    go_enter Try.func62, Try.ntmps62
    go_wp2
    go_ret
    exact ⟨bool_eq hno.out.symm, (Below.refl _ _).alloc (Nat.le_refl _) _⟩
  have h1' : ¬ (1024 : Int) < q.next.length := by omega
  by_cases h2 : q.outs.length = q.next.length
  case neg =>
    have hno := NO.out _ rfl (by simp [sqOk, h2])
    have h2' : ((q.outs.length : Int) != (q.next.length : Int)) = true := by simp; omega
    clear h1 h2
    go_enter Try.func62, Try.ntmps62
    go_wp2
    go_ret
    exact ⟨bool_eq hno.out.symm, (Below.refl _ _).alloc (Nat.le_refl _) _⟩
  have h2' : ((q.outs.length : Int) != (q.next.length : Int)) = false := by simp; omega
  by_cases h3 : q.fin.length = q.next.length
  case neg =>
    have hno := NO.out _ rfl (by simp [sqOk, h3])
    have h3' : ((q.fin.length : Int) != (q.next.length : Int)) = true := by simp; omega
    clear h1 h2 h3
    go_enter Try.func62, Try.ntmps62
    go_wp2
    go_ret
    exact ⟨bool_eq hno.out.symm, (Below.refl _ _).alloc (Nat.le_refl _) _⟩
  have h3' : ((q.fin.length : Int) != (q.next.length : Int)) = false := by simp; omega
  by_cases h4 : q.tail.length = q.next.length
  case neg =>
    have hno := NO.out _ rfl (by simp [sqOk, h4])
    have h4' : ((q.tail.length : Int) != (q.next.length : Int)) = true := by simp; omega
    clear h1 h2 h3 h4
    go_enter Try.func62, Try.ntmps62
    go_wp2
    go_ret
    exact ⟨bool_eq hno.out.symm, (Below.refl _ _).alloc (Nat.le_refl _) _⟩
  have h4' : ((q.tail.length : Int) != (q.next.length : Int)) = false := by simp; omega
  have H2 := hid h2
  have H3 := hid h3
  have H4 := hid h4
  by_cases h5 : 4096 < q.front.length
  · have hno := NO.out _ rfl (by simp [sqOk]; omega)
    have h5' : (4096 : Int) < q.front.length := by omega
    clear h1 h2 h3 h4 h5
    go_enter Try.func62, Try.ntmps62
    go_wp2
    go_ret
    exact ⟨bool_eq hno.out.symm, (Below.refl _ _).alloc (Nat.le_refl _) _⟩
  have h5' : ¬ (4096 : Int) < q.front.length := by omega
  by_cases h6 : q.next.length = 0 ∧ q.front ≠ []
  · obtain ⟨h6, h7⟩ := h6
    have hno := NO.out _ rfl (by simp [sqOk, h6, h7])
    have h6' : ((q.next.length : Int) == 0) = true := by simp [h6]
    have h7' : (!q.front.isEmpty) = true := by simpa using h7
    clear h1 h2 h3 h4 h5 h6 h7
    go_enter Try.func62, Try.ntmps62
    go_wp2
    go_ret
    exact ⟨bool_eq hno.out.symm, (Below.refl _ _).alloc (Nat.le_refl _) _⟩
  have hok := hid (show sqOk q = sStatesOk q.next.length q.next q.outs q.fin q.tail by
    have e5 : (decide (q.next.length = 0) && decide (q.front ≠ [])) = false := by
      simp only [Bool.and_eq_false_iff, decide_eq_false_iff_not]
      by_cases e : q.next.length = 0
      · right; intro e2; exact h6 ⟨e, e2⟩
      · left; exact e
    unfold sqOk
    rw [e5, h2, h3, h4]
    simp; omega)
  have hmid : ((q.next.length : Int) == 0) = false ∨ (((q.next.length : Int) == 0) = true ∧ (!q.front.isEmpty) = false) := by
    by_cases e : q.next.length = 0
    · right
      have : q.front = [] := Decidable.byContradiction fun e2 => h6 ⟨e, e2⟩
      exact ⟨by simp [e], by rw [this]; rfl⟩
    · left; rw [beq_eq_false_iff_ne]; omega
  clear h1 h2 h3 h4 h5 h6
  rcases hmid with hm | ⟨hm, hm'⟩
  all_goals
    go_enter Try.func62, Try.ntmps62
    go_wp2_with fail
    generalize hW0 : w.alloc (.cells #[.string ⟨q.front.toArray⟩, .slice ad1 q.next.length cp1, .slice ad2 q.outs.length cp2, .slice ad3 q.fin.length cp3, .slice ad4 q.tail.length cp4] 50) = W0
    have HDB : Hid (W0.heap[w.heap.size]? = some (.cells #[.string ⟨q.front.toArray⟩, .slice ad1 q.next.length cp1, .slice ad2 q.outs.length cp2, .slice ad3 q.fin.length cp3, .slice ad4 q.tail.length cp4] 50 (0, 0))) := by rw [← hW0]; exact hid (heap_alloc_new _ _)
    have hz0 : W0.heap.size = w.heap.size + 1 := by rw [← hW0]; simp
    have hB0 : Below w.heap.size w W0 := by rw [← hW0]; exact (Below.refl _ _).alloc (Nat.le_refl _) _
    clear hW0 h2' h3' h4' hm
    have low : ∀ g, F g → g < w.heap.size → W0.heap[g]? = w.heap[g]? := fun g hg hl => hB0.block g hl
    obtain ⟨r0, r1, r2, r3, r4⟩ := scells HDB.out
    have HL1 := hid (HR1.out.frame (w' := W0) (F' := F) (fun _ h => h) low (R' := IntsIn F W0) (fun _ _ _ h => IntsIn.frame h (fun _ h => h) low))
    have HL2 := hid (HR2.out.frame (w' := W0) (F' := F) (fun _ h => h) low (R' := StrsIn F W0) (fun _ _ _ h => StrsIn.frame h (fun _ h => h) low))
    have HL3 := hid (HR3.out.frame (w' := W0) (F' := F) (fun _ h => h) low (R' := BoolR) (fun _ _ _ h => h))
    have HL4 := hid (HR4.out.frame (w' := W0) (F' := F) (fun _ h => h) low (R' := StrR) (fun _ _ _ h => h))
    clear low
    go_wp2
    go_loop [4] (fun v => ∃ k : Nat, k ≤ q.next.length ∧ v = .int .i64 k ∧ Hid (sStatesOk q.next.length (q.next.take k) (q.outs.take k) (q.fin.take k) (q.tail.take k) = true)) (fun v => q.next.length - (intOf v).toNat)
    case atStart => exact ⟨0, Nat.zero_le _, rfl, hid (by simp [sStatesOk])⟩
    case round =>
      obtain ⟨k, hk, rfl, hall⟩ := hrel
      by_cases hlt : k < q.next.length
      · have hk2 : k < q.outs.length := by have := H2.out; omega
        have hk3 : k < q.fin.length := by have := H3.out; omega
        have hk4 : k < q.tail.length := by have := H4.out; omega
        obtain ⟨g, off, rfl, hFg, x, hx, hrow⟩ := HL1.out.at' hlt
        obtain ⟨g2, off2, rfl, hFg2, x2, hx2, hrow2⟩ := HL2.out.at' hk2
        obtain ⟨g3, off3, rfl, hFg3, x3, hx3, rfl⟩ := HL3.out.at' hk3
        obtain ⟨g4, off4, rfl, hFg4, x4, hx4, rfl⟩ := HL4.out.at' hk4
        have htl := HTA.out _ (List.getElem_mem hk4)
        have hgo : (k : Int) < (q.outs.length : Int) := by omega
        have hgf : (k : Int) < (q.fin.length : Int) := by omega
        have hgt : (k : Int) < (q.tail.length : Int) := by omega
        have hgn : (k : Int) < (q.next.length : Int) := by omega
        have HNO := hid (fun (h : sStateOk q.next.length q.next[k] q.outs[k] q.fin[k] q.tail[k] = false) => NO.out _ rfl (hok.out.trans (sStatesOk_not _ k _ _ _ _ hlt hk2 hk3 hk4 h)))
        have hsn := hid (sStatesOk_snoc q.next.length k _ _ _ _ hlt hk2 hk3 hk4)
        have HOK := hid (HOU.out _ (List.getElem_mem hk2))
        obtain ⟨adr, cpr, rfl, hmr, hrr⟩ := hrow
        obtain ⟨ado, cpo, rfl, hmo, hro⟩ := hrow2
        unfold maxLen at hmr hmo
        have HRR := hid hrr
        have HRO := hid hro
        clear hrr hro
        by_cases hl1 : q.next[k].length = 256
        case neg =>
          have hno := HNO.out (by simp [sStateOk, sRowOk, hl1])
          have hl1' : ((q.next[k].length : Int) != 256) = true := by simp; omega
          clear hl1
          go_wp2
          go_ret
          exact ⟨bool_eq hno.out.symm, hB0⟩
        have hl1' : ((q.next[k].length : Int) != 256) = false := by simp; omega
        by_cases hl2 : q.outs[k].length = 256
        case neg =>
          have hno := HNO.out (by simp [sStateOk, sRowOk, hl2])
          have hl2' : ((q.outs[k].length : Int) != 256) = true := by simp; omega
          clear hl1 hl2
          go_wp2
          go_ret
          exact ⟨bool_eq hno.out.symm, hB0⟩
        have hl2' : ((q.outs[k].length : Int) != 256) = false := by simp; omega
        have HE1 := hid hl1
        have HE2 := hid hl2
        have hz1 : 256 ≤ q.next[k].length := by omega
        have hz2 : 256 ≤ q.outs[k].length := by omega
        clear hl1 hl2
        by_cases ht1 : 4096 < q.tail[k].length
        · have hno := HNO.out (by simp [sStateOk]; omega)
          have ht1' : (4096 : Int) < q.tail[k].length := by omega
          clear ht1
          go_wp2
          go_ret
          exact ⟨bool_eq hno.out.symm, hB0⟩
        have ht1' : ¬ (4096 : Int) < q.tail[k].length := by omega
        by_cases ht2 : q.fin[k] = false ∧ q.tail[k] ≠ []
        · obtain ⟨ht2, ht3⟩ := ht2
          have hno := HNO.out (by simp [sStateOk, ht2, ht3])
          have ht3' : (!q.tail[k].isEmpty) = true := by simpa using ht3
          clear ht1 ht3
          go_wp2
          go_ret
          exact ⟨bool_eq hno.out.symm, hB0⟩
        have hmid : q.fin[k] = true ∨ (q.fin[k] = false ∧ (!q.tail[k].isEmpty) = false) := by
          cases e : q.fin[k]
          · right
            have : q.tail[k] = [] := Decidable.byContradiction fun e2 => ht2 ⟨e, e2⟩
            exact ⟨rfl, by rw [this]; rfl⟩
          · left; rfl
        have HT2 := hid (show q.fin[k] = true ∨ q.tail[k] = [] by
          cases e : q.fin[k]
          · right; exact Decidable.byContradiction fun e2 => ht2 ⟨e, e2⟩
          · left; rfl)
        clear ht1 ht2
        rcases hmid with hf | ⟨hf, hf'⟩
        all_goals
          go_wp2
          clear hl1' hl2'
          go_loop [5] (fun v => ∃ j : Nat, j ≤ 256 ∧ v = .int .i64 j ∧ Hid (arcsOk q.next.length (q.next[k].take j) (q.outs[k].take j) = true)) (fun v => 256 - (intOf v).toNat)
          case atStart => exact ⟨0, Nat.zero_le _, rfl, hid (by simp [arcsOk])⟩
          case round =>
            obtain ⟨j, hj, rfl, hin⟩ := hrel
            by_cases hlj : j < 256
            · have hj1 : j < q.next[k].length := by omega
              have hj2 : j < q.outs[k].length := by omega
              have hj1' : (j : Int) < (q.next[k].length : Int) := by omega
              have hj2' : (j : Int) < (q.outs[k].length : Int) := by omega
              obtain ⟨ga, offa, rfl, _, xa, hxa, rfl⟩ := HRR.out.at' hj1
              obtain ⟨gb, offb, rfl, _, xb, hxb, rfl⟩ := HRO.out.at' hj2
              have hol := HOK.out _ (List.getElem_mem hj2)
              have HNN := hid (fun (h : arcOk q.next.length q.next[k][j] q.outs[k][j] = false) => HNO.out (by unfold sStateOk sRowOk; rw [arcsOk_not q.next.length j q.next[k] q.outs[k] hj1 hj2 h]; simp))
              have hsj := hid (arcsOk_snoc q.next.length j q.next[k] q.outs[k] hj1 hj2)
              by_cases hs1 : q.next[k][j] < -1
              · have hno := HNN.out (by simp [arcOk]; omega)
                go_wp2
                go_ret
                exact ⟨bool_eq hno.out.symm, hB0⟩
              by_cases hs2 : (q.next.length : Int) ≤ q.next[k][j]
              · have hno := HNN.out (by simp [arcOk]; omega)
                go_wp2
                go_ret
                exact ⟨bool_eq hno.out.symm, hB0⟩
              by_cases hs4 : q.next[k][j] = -1 ∧ q.outs[k][j] ≠ []
              · obtain ⟨hs4, hs5⟩ := hs4
                have hno := HNN.out (by rw [hs4]; simp [arcOk, hs5])
                have hs4' : (q.next[k][j] == -1) = true := by simp [hs4]
                have hs5' : (!q.outs[k][j].isEmpty) = true := by simpa using hs5
                clear hs4 hs5
                go_wp2
                go_ret
                exact ⟨bool_eq hno.out.symm, hB0⟩
              have hme : (q.next[k][j] == -1) = false ∨ ((q.next[k][j] == -1) = true ∧ (!q.outs[k][j].isEmpty) = false) := by
                by_cases e : q.next[k][j] = -1
                · right
                  have : q.outs[k][j] = [] := Decidable.byContradiction fun e2 => hs4 ⟨e, e2⟩
                  exact ⟨by simp [e], by rw [this]; rfl⟩
                · left; rw [beq_eq_false_iff_ne]; exact e
              have HS4 := hid (show (!(decide (q.next[k][j] = -1) && decide (q.outs[k][j] ≠ []))) = true by
                by_cases e : q.next[k][j] = -1
                · have : q.outs[k][j] = [] := Decidable.byContradiction fun e2 => hs4 ⟨e, e2⟩
                  simp [this]
                · simp [e])
              clear hs4
              by_cases hs3 : 4096 < q.outs[k][j].length
              · have hno := HNN.out (by simp [arcOk]; omega)
                have hs3' : (4096 : Int) < (q.outs[k][j].length : Int) := by omega
                clear hs3
                rcases hme with he | ⟨he, he'⟩
                all_goals
                  go_wp2
                  go_ret
                  exact ⟨bool_eq hno.out.symm, hB0⟩
              have hs3' : ¬ (4096 : Int) < (q.outs[k][j].length : Int) := by omega
              have hsj1 := hid (hsj.out.trans (show _ = true by rw [hin.out]; unfold arcOk; rw [HS4.out]; simp; omega))
              clear hs3
              rcases hme with he | ⟨he, he'⟩
              all_goals
                go_wp2
                go_round
                case rel => exact ⟨j + 1, by omega, by go_num, hsj1⟩
                case measure => simp [intOf]; omega
            · have hsk := hid (hsn.out.trans (show _ = true by
                have h := hin.out
                have e1 := HE1.out
                have e2 := HE2.out
                rw [show q.next[k].take j = q.next[k] from List.take_of_length_le (by omega), show q.outs[k].take j = q.outs[k] from List.take_of_length_le (by omega)] at h
                rw [hall.out]
                unfold sStateOk sRowOk
                rw [h]
                rcases HT2.out with h | h <;> simp [h, e1, e2] <;> omega))
              go_wp2
              go_round
              case rel => exact ⟨k + 1, by omega, by go_num, hsk⟩
              case measure => simp [intOf]; omega
      · obtain rfl : k = q.next.length := by omega
        have hyes : Hid (sqOk q = true) := by
          have h := hall.out
          rw [List.take_length, show q.outs.take q.next.length = q.outs by rw [← H2.out, List.take_length], show q.fin.take q.next.length = q.fin by rw [← H3.out, List.take_length], show q.tail.take q.next.length = q.tail by rw [← H4.out, List.take_length]] at h
          exact hid (hok.out.trans h)
        clear hall
        go_wp2
        go_ret
        exact ⟨bool_eq hyes.out.symm, hB0⟩
end Go.Proofs.Ytdokeelodcckoaa.Im

namespace Go.Proofs.Ytdokeelodcckoaa.Im
open Go.RowKit Go.Lib

/-- the four rows of a transducer together are no longer than what an int holds -/
def SqSum (q : Sq) : Prop := q.next.length + q.outs.length + q.fin.length + q.tail.length ≤ 9223372036854775807
theorem sqNone_sum {q : Sq} : sqNone q = (decide (q.front = []) && decide (q.next.length + q.outs.length + q.fin.length + q.tail.length = 0)) := by
  unfold sqNone
  rw [Bool.eq_iff_iff]
  simp only [Bool.and_eq_true, decide_eq_true_eq]
  constructor
  · rintro ⟨⟨⟨⟨h1, h2⟩, h3⟩, h4⟩, h5⟩
    exact ⟨h1, by omega⟩
  · rintro ⟨h1, h2⟩
    exact ⟨⟨⟨⟨h1, by omega⟩, by omega⟩, by omega⟩, by omega⟩
theorem infoSeqR : (Try.prog.info? 50).map (·.size) = some 5 := by kernel_rfl

set_option maxRecDepth 100000 in
set_option maxHeartbeats 4000000 in
theorem ruleRight_any {F : Nat → Prop} {w : World} {cs : List Value} {r : Rule} (hr : RuleIn F w cs r) (hF : ∀ g, F g → g < w.heap.size) (hlens : RuleLens r) (hsum : SqSum r.by_) :
    Calls Try.prog 40 #[.agg cs.toArray] w fun e w' => e = .returned (.bool (ruleOk r)) ∧ Below w.heap.size w w' := by
  obtain ⟨rof, rleft, rright, rout, rm, rby⟩ := r
  obtain ⟨a1, b1, c1, a2, b2, c2, a3, b3, c3, f, na, ou, fi, ta, rfl, h1, h2, h3, h4⟩ := hr.is
  simp only at h1 h2 h3 h4
  obtain ⟨x4, p4, y4, q4, z4, s4, v4, t4, rfl, rfl, rfl, rfl, rfl⟩ := h4.shape
  have hol : rout.length ≤ 9223372036854775807 := hlens.out
  have hbl := hlens.by_
  have hq1 : rby.front.length ≤ 9223372036854775807 := hbl.front
  unfold SqSum at hsum
  simp only at hsum hbl
  generalize hW0 : w.alloc (.cells #[a1, b1, c1, a2, b2, c2, a3, b3, c3, .string ⟨rout.toArray⟩, .bool rm, .string ⟨rby.front.toArray⟩, .slice x4 rby.next.length p4, .slice y4 rby.outs.length q4, .slice z4 rby.fin.length s4, .slice v4 rby.tail.length t4] 52) = W0
  have hDb : W0.heap[w.heap.size]? = some (.cells #[a1, b1, c1, a2, b2, c2, a3, b3, c3, .string ⟨rout.toArray⟩, .bool rm, .string ⟨rby.front.toArray⟩, .slice x4 rby.next.length p4, .slice y4 rby.outs.length q4, .slice z4 rby.fin.length s4, .slice v4 rby.tail.length t4] 52 (0, 0)) := by rw [← hW0]; exact heap_alloc_new _ _
  have hB0 : Below w.heap.size w W0 := by rw [← hW0]; exact (Below.refl _ _).alloc (Nat.le_refl _) _
  have hz0 : W0.heap.size = w.heap.size + 1 := by rw [← hW0]; simp
  have LOW := hid (show ∀ w' : World, Below W0.heap.size W0 w' → ∀ g, F g → g < w.heap.size → w'.heap[g]? = w.heap[g]? from fun w' hu g hg _ => (hu.block g (by have := hF g hg; omega)).trans (hB0.block g (hF g hg)))
  have HFB := hid (show ∀ w' : World, Below W0.heap.size W0 w' → ∀ g, F g → g < w'.heap.size from fun w' hu g hg => by have := hF g hg; have := hu.size; omega)
  have HDB := hid hDb
  have HW0 := hid hW0
  have HLENS := hid hbl
  have no1 : dfaOk rof = false → Hid (ruleOk ⟨rof, rleft, rright, rout, rm, rby⟩ = false) := fun h => hid (by simp [ruleOk, h])
  have no2 : dfaOk rleft = false → Hid (ruleOk ⟨rof, rleft, rright, rout, rm, rby⟩ = false) := fun h => hid (by simp [ruleOk, h])
  have no3 : dfaOk rright = false → Hid (ruleOk ⟨rof, rleft, rright, rout, rm, rby⟩ = false) := fun h => hid (by simp [ruleOk, h])
  have NO := hid (And.intro no1 (And.intro no2 no3))
  have YES := hid (show dfaOk rof = true → dfaOk rleft = true → dfaOk rright = true → ruleOk ⟨rof, rleft, rright, rout, rm, rby⟩ = (if rm then sqOk rby && decide (rout = []) else sqNone rby && decide (rout.length ≤ 256)) from fun e1 e2 e3 => by simp [ruleOk, e1, e2, e3])
  obtain ⟨q0, q1, q2, q3, q4, q5, q6, q7, q8, q9, q10, q11, q12, q13, q14, q15⟩ := rcells hDb
  clear hDb hW0 hr no1 no2 no3 hlens hbl
  go_enter Try.func40, Try.ntmps40
  go_wp2_with fail
  rw [HW0.out]
  refine (rightR_any (h1.frame (fun _ h => h) (LOW.out W0 (Below.refl _ _))) (HFB.out W0 (Below.refl _ _))).mono ?_
  rintro e w1 ⟨rfl, hb1⟩
  clear q0 q1 q2 q3 q4 q5 q6 q7 q8 q9 q10 q11 q12 q13 q14 q15
  cases hx1 : dfaOk rof
  · have hno := NO.out.1 hx1
    clear hx1
    go_wp2
    go_ret
    exact ⟨bool_eq hno.out.symm, hB0.trans (hb1.mono (by omega))⟩
  have HX1 := hid hx1
  clear hx1
  obtain ⟨q0, q1, q2, q3, q4, q5, q6, q7, q8, q9, q10, q11, q12, q13, q14, q15⟩ := rcells ((hb1.block _ (by omega)).trans HDB.out)
  go_wp2_with fail
  refine (rightR_any (h2.frame (fun _ h => h) (LOW.out w1 hb1)) (HFB.out w1 hb1)).mono ?_
  rintro e w2 ⟨rfl, hb2⟩
  have hb12 := hb1.trans (hb2.mono hb1.size)
  clear q0 q1 q2 q3 q4 q5 q6 q7 q8 q9 q10 q11 q12 q13 q14 q15
  cases hx2 : dfaOk rleft
  · have hno := NO.out.2.1 hx2
    clear hx2
    go_wp2
    go_ret
    exact ⟨bool_eq hno.out.symm, hB0.trans (hb12.mono (by omega))⟩
  have HX2 := hid hx2
  clear hx2
  obtain ⟨q0, q1, q2, q3, q4, q5, q6, q7, q8, q9, q10, q11, q12, q13, q14, q15⟩ := rcells ((hb12.block _ (by omega)).trans HDB.out)
  go_wp2_with fail
  refine (rightR_any (h3.frame (fun _ h => h) (LOW.out w2 hb12)) (HFB.out w2 hb12)).mono ?_
  rintro e w3 ⟨rfl, hb3⟩
  have hb13 := hb12.trans (hb3.mono hb12.size)
  clear q0 q1 q2 q3 q4 q5 q6 q7 q8 q9 q10 q11 q12 q13 q14 q15
  cases hx3 : dfaOk rright
  · have hno := NO.out.2.2 hx3
    clear hx3
    go_wp2
    go_ret
    exact ⟨bool_eq hno.out.symm, hB0.trans (hb13.mono (by omega))⟩
  have HYES := hid (YES.out HX1.out HX2.out hx3)
  clear hx3
  obtain ⟨q0, q1, q2, q3, q4, q5, q6, q7, q8, q9, q10, q11, q12, q13, q14, q15⟩ := rcells ((hb13.block _ (by omega)).trans HDB.out)
  have hs13 := hb13.size
  have hs14 : w.heap.size < w3.heap.size := by omega
  cases rm
  · have HR := hid (show ruleOk ⟨rof, rleft, rright, rout, false, rby⟩ = (decide (rby.front = []) && decide (rby.next.length + rby.outs.length + rby.fin.length + rby.tail.length = 0) && decide (rout.length ≤ 256)) by rw [HYES.out, sqNone_sum]; rfl)
    have s1 : IntKind.i64.wrap ((rby.next.length : Int) + rby.outs.length) = (rby.next.length : Int) + rby.outs.length := by rw [IntKind.wrap_i64]; omega
    by_cases ho : 256 < rout.length
    · have ho' : ¬ (rout.length : Int) ≤ 256 := by omega
      have HN := hid (show ruleOk ⟨rof, rleft, rright, rout, false, rby⟩ = false by rw [HR.out, decide_eq_false (show ¬ rout.length ≤ 256 by omega)]; simp)
      clear ho
      go_wp2
      go_ret
      exact ⟨bool_eq HN.out.symm, hB0.trans ((hb13.alloc hs13 _).mono (by omega))⟩
    · have ho' : (rout.length : Int) ≤ 256 := by omega
      have HO := hid (show rout.length ≤ 256 by omega)
      clear ho
      by_cases hf : rby.front = []
      · have hf' : rby.front.isEmpty = true := by rw [hf]; rfl
        have HF := hid hf
        clear hf
        go_wp2
        go_ret
        refine ⟨bool_eq ?_, hB0.trans ((hb13.alloc hs13 _).mono (by omega))⟩
        rw [HR.out, HF.out, decide_eq_true HO.out]
        clear s1
        rw [decide_eq_true (show ([] : List B) = [] from rfl), Bool.true_and, Bool.and_true, Bool.eq_iff_iff, beq_iff_eq, decide_eq_true_eq]
        omega
      · have hf' : rby.front.isEmpty = false := by simpa using hf
        have HN := hid (show ruleOk ⟨rof, rleft, rright, rout, false, rby⟩ = false by rw [HR.out, decide_eq_false hf]; simp)
        clear hf
        go_wp2
        go_ret
        exact ⟨bool_eq HN.out.symm, hB0.trans ((hb13.alloc hs13 _).mono (by omega))⟩
  · have HR := hid (show ruleOk ⟨rof, rleft, rright, rout, true, rby⟩ = (sqOk rby && decide (rout = [])) by rw [HYES.out]; rfl)
    go_wp2_with fail
    refine (seqRight_any (h4.frame (fun _ h => h) (LOW.out w3 hb13)) (HFB.out w3 hb13) HLENS.out.front HLENS.out.tail HLENS.out.outs).mono ?_
    rintro e w4 ⟨rfl, hb4⟩
    have hb14 := hb13.trans (hb4.mono hb13.size)
    clear q0 q1 q2 q3 q4 q5 q6 q7 q8 q9 q10 q11 q12 q13 q14 q15
    obtain ⟨q0, q1, q2, q3, q4, q5, q6, q7, q8, q9, q10, q11, q12, q13, q14, q15⟩ := rcells ((hb14.block _ (by omega)).trans HDB.out)
    cases hs : sqOk rby
    · have HN := hid (show ruleOk ⟨rof, rleft, rright, rout, true, rby⟩ = false by rw [HR.out, hs]; rfl)
      clear hs
      go_wp2
      go_ret
      exact ⟨bool_eq HN.out.symm, hB0.trans (hb14.mono (by omega))⟩
    · have HS := hid hs
      clear hs
      go_wp2
      go_ret
      refine ⟨bool_eq ?_, hB0.trans (hb14.mono (by omega))⟩
      rw [HR.out, HS.out]
      cases rout <;> simp
end Go.Proofs.Ytdokeelodcckoaa.Im
