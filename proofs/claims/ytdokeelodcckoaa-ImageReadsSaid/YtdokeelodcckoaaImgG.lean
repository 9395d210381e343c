/-
  The contract of seq.Check.
-/
import Derived.Test.YtdokeelodcckoaaImgF
import Derived.Deep.QuietTactic
import Derived.BigQuiet
namespace Go.Proofs.Ytdokeelodcckoaa.Im
open Go.RowKit Go.Lib

theorem quiet_same {P : Program} {f : FuncId} {args : Array Value} {w : World} {n : Nat} {v : Value}
    (h : Calls P f args (w.drewN n) fun e w' => e = .returned v ∧ w.drewN n = w') : Calls P f args (w.drewN n) fun e w'' => e = .returned v ∧ ∃ m, w'' = w.drewN m :=
  h.mono fun _ _ ⟨he, hm⟩ => ⟨he, n, hm.symm⟩
def sStateOk (n : Nat) (x : List Int) (o : List (List B)) (e : Bool) (t : List B) : Bool := decide (t.length ≤ 4096) && (e || decide (t = [])) && sRowOk n x o
theorem sStatesOk_snoc (n : Nat) : ∀ (k : Nat) (xs : List (List Int)) (os : List (List (List B))) (es : List Bool) (ts : List (List B)) (h1 : k < xs.length) (h2 : k < os.length) (h3 : k < es.length) (h4 : k < ts.length),
    sStatesOk n (xs.take (k + 1)) (os.take (k + 1)) (es.take (k + 1)) (ts.take (k + 1)) = (sStatesOk n (xs.take k) (os.take k) (es.take k) (ts.take k) && sStateOk n xs[k] os[k] es[k] ts[k])
  | _, [], _, _, _, h, _, _, _ => by simp at h
  | _, _ :: _, [], _, _, _, h, _, _ => by simp at h
  | _, _ :: _, _ :: _, [], _, _, _, h, _ => by simp at h
  | _, _ :: _, _ :: _, _ :: _, [], _, _, _, h => by simp at h
  | 0, x :: xs, o :: os, e :: es, t :: ts, _, _, _, _ => by simp [sStatesOk, sStateOk]
  | k + 1, x :: xs, o :: os, e :: es, t :: ts, h1, h2, h3, h4 => by
    have := sStatesOk_snoc n k xs os es ts (by simpa using h1) (by simpa using h2) (by simpa using h3) (by simpa using h4)
    simp only [List.take_succ_cons, sStatesOk, this, List.getElem_cons_succ, Bool.and_assoc]
theorem sStatesOk_not (n : Nat) : ∀ (k : Nat) (xs : List (List Int)) (os : List (List (List B))) (es : List Bool) (ts : List (List B)) (h1 : k < xs.length) (h2 : k < os.length) (h3 : k < es.length) (h4 : k < ts.length),
    sStateOk n xs[k] os[k] es[k] ts[k] = false → sStatesOk n xs os es ts = false
  | _, [], _, _, _, h, _, _, _, _ => by simp at h
  | _, _ :: _, [], _, _, _, h, _, _, _ => by simp at h
  | _, _ :: _, _ :: _, [], _, _, _, h, _, _ => by simp at h
  | _, _ :: _, _ :: _, _ :: _, [], _, _, _, h, _ => by simp at h
  | 0, x :: xs, o :: os, e :: es, t :: ts, _, _, _, _, h => by
    simp only [List.getElem_cons_zero, sStateOk] at h
    simp only [sStatesOk, h, Bool.false_and]
  | k + 1, x :: xs, o :: os, e :: es, t :: ts, h1, h2, h3, h4, h => by
    have := sStatesOk_not n k xs os es ts (by simpa using h1) (by simpa using h2) (by simpa using h3) (by simpa using h4) (by simpa using h)
    simp [sStatesOk, this]
theorem drewN_heap (w : World) (n : Nat) : (w.drewN n).heap = w.heap := by
  induction n with
  | zero => rfl
  | succ n ih => exact ih

set_option maxRecDepth 100000 in
set_option maxHeartbeats 2000000 in
theorem sqCheck_any {F : Nat → Prop} {w : World} {f a b c d : Value} {q : Sq} (hq : SqIn F w f a b c d q) (hF : ∀ g, F g → g < w.heap.size) (hfr : q.front.length ≤ 9223372036854775807) (hta : ∀ t ∈ q.tail, t.length ≤ 9223372036854775807) (hou : ∀ l ∈ q.outs, ∀ o ∈ l, o.length ≤ 9223372036854775807) :
    Calls Try.prog 47 #[.agg #[f, a, b, c, d]] w fun e w' => e = .returned (.int .i64 (errOf (sqOk q))) ∧ Below w.heap.size w w' := by
  obtain ⟨hq0, hq1, hq2, hq3, hq4⟩ := hq
  obtain rfl : f = .string ⟨q.front.toArray⟩ := hq0
  obtain ⟨ad1, cp1, rfl, hm1, hr1⟩ := hq1
  obtain ⟨ad2, cp2, rfl, hm2, hr2⟩ := hq2
  obtain ⟨ad3, cp3, rfl, hm3, hr3⟩ := hq3
  obtain ⟨ad4, cp4, rfl, hm4, hr4⟩ := hq4
  unfold maxLen at hm1 hm2 hm3 hm4
  have HR1 := hid hr1
  have HR2 := hid hr2
  have HR3 := hid hr3
  have HR4 := hid hr4
  have HTA := hid hta
  have HOU := hid hou
  have HFF := hid hF
  clear hr1 hr2 hr3 hr4 hta hou hF
  have no : ∀ (b : Bool), sqOk q = b → b = false → Hid (errOf (sqOk q) = 1) := fun b h1 h2 => hid (errOf_false (h1.trans h2))
  have ring : sqOk q = sqOk q := rfl
  have NO := hid no
  clear no ring
  by_cases h1 : 1024 < q.next.length
  · have hno := NO.out _ rfl (by simp [sqOk]; omega)
    have h1' : (1024 : Int) < q.next.length := by omega
    clear h1
    go_enter Try.func47, Try.ntmps47
    go_wp2
    go_ret
    exact ⟨err_eq hno.out.symm, (Below.refl _ _).alloc (Nat.le_refl _) _⟩
  have h1' : ¬ (1024 : Int) < q.next.length := by omega
  by_cases h2 : q.outs.length = q.next.length
  case neg =>
    have hno := NO.out _ rfl (by simp [sqOk, h2])
    have h2' : ((q.outs.length : Int) != (q.next.length : Int)) = true := by simp; omega
    clear h1 h2
    go_enter Try.func47, Try.ntmps47
    go_wp2
    go_ret
    exact ⟨err_eq hno.out.symm, (Below.refl _ _).alloc (Nat.le_refl _) _⟩
  have h2' : ((q.outs.length : Int) != (q.next.length : Int)) = false := by simp; omega
  by_cases h3 : q.fin.length = q.next.length
  case neg =>
    have hno := NO.out _ rfl (by simp [sqOk, h3])
    have h3' : ((q.fin.length : Int) != (q.next.length : Int)) = true := by simp; omega
    clear h1 h2 h3
    go_enter Try.func47, Try.ntmps47
    go_wp2
    go_ret
    exact ⟨err_eq hno.out.symm, (Below.refl _ _).alloc (Nat.le_refl _) _⟩
  have h3' : ((q.fin.length : Int) != (q.next.length : Int)) = false := by simp; omega
  by_cases h4 : q.tail.length = q.next.length
  case neg =>
    have hno := NO.out _ rfl (by simp [sqOk, h4])
    have h4' : ((q.tail.length : Int) != (q.next.length : Int)) = true := by simp; omega
    clear h1 h2 h3 h4
    go_enter Try.func47, Try.ntmps47
    go_wp2
    go_ret
    exact ⟨err_eq hno.out.symm, (Below.refl _ _).alloc (Nat.le_refl _) _⟩
  have h4' : ((q.tail.length : Int) != (q.next.length : Int)) = false := by simp; omega
  have H2 := hid h2
  have H3 := hid h3
  have H4 := hid h4
  by_cases h5 : 4096 < q.front.length
  · have hno := NO.out _ rfl (by simp [sqOk]; omega)
    have h5' : (4096 : Int) < q.front.length := by omega
    clear h1 h2 h3 h4 h5
    go_enter Try.func47, Try.ntmps47
    go_wp2
    go_ret
    exact ⟨err_eq hno.out.symm, (Below.refl _ _).alloc (Nat.le_refl _) _⟩
  have h5' : ¬ (4096 : Int) < q.front.length := by omega
  by_cases h6 : q.next.length = 0 ∧ q.front ≠ []
  · obtain ⟨h6, h7⟩ := h6
    have hno := NO.out _ rfl (by simp [sqOk, h6, h7])
    have h6' : ((q.next.length : Int) == 0) = true := by simp [h6]
    have h7' : (!q.front.isEmpty) = true := by simpa using h7
    clear h1 h2 h3 h4 h5 h6 h7
    go_enter Try.func47, Try.ntmps47
    go_wp2
    go_ret
    exact ⟨err_eq hno.out.symm, (Below.refl _ _).alloc (Nat.le_refl _) _⟩
  have hok := hid (show sqOk q = sStatesOk q.next.length q.next q.outs q.fin q.tail by
    have e5 : (decide (q.next.length = 0) && decide (q.front ≠ [])) = false := by
      simp only [Bool.and_eq_false_iff, decide_eq_false_iff_not]
      by_cases e : q.next.length = 0
      · right; intro e2; exact h6 ⟨e, e2⟩
      · left; exact e
    unfold sqOk
    rw [e5, h2, h3, h4]
    simp; omega)
  have hmid : ((q.next.length : Int) == 0) = false ∨ (((q.next.length : Int) == 0) = true ∧ (!q.front.isEmpty) = false) := by
    by_cases e : q.next.length = 0
    · right
      have : q.front = [] := Decidable.byContradiction fun e2 => h6 ⟨e, e2⟩
      exact ⟨by simp [e], by rw [this]; rfl⟩
    · left; rw [beq_eq_false_iff_ne]; omega
  clear h1 h2 h3 h4 h5 h6
  rcases hmid with hm | ⟨hm, hm'⟩
  all_goals
    go_enter Try.func47, Try.ntmps47
    go_wp2_with fail
    generalize hW0 : w.alloc (.cells #[.string ⟨q.front.toArray⟩, .slice ad1 q.next.length cp1, .slice ad2 q.outs.length cp2, .slice ad3 q.fin.length cp3, .slice ad4 q.tail.length cp4] 50) = W0
    have HDB : Hid (W0.heap[w.heap.size]? = some (.cells #[.string ⟨q.front.toArray⟩, .slice ad1 q.next.length cp1, .slice ad2 q.outs.length cp2, .slice ad3 q.fin.length cp3, .slice ad4 q.tail.length cp4] 50 (0, 0))) := by rw [← hW0]; exact hid (heap_alloc_new _ _)
    have hz0 : W0.heap.size = w.heap.size + 1 := by rw [← hW0]; simp
    have hB0 : Below w.heap.size w W0 := by rw [← hW0]; exact (Below.refl _ _).alloc (Nat.le_refl _) _
    clear hW0 h2' h3' h4' hm
    go_loopw [45] (fun v wr => ∃ k : Nat, k ≤ q.next.length ∧ v = .int .i64 k ∧ Below W0.heap.size W0 wr ∧ Hid (sStatesOk q.next.length (q.next.take k) (q.outs.take k) (q.fin.take k) (q.tail.take k) = true)) (fun v _ => q.next.length - (intOf v).toNat)
    case atStart => exact ⟨0, Nat.zero_le _, rfl, Below.refl _ _, hid (by simp [sStatesOk])⟩
    case round =>
      obtain ⟨k, hk, rfl, hbr, hall⟩ := hrel
      have hBr : Below w.heap.size w wr := hB0.trans (hbr.mono (by omega))
      obtain ⟨r0, r1, r2, r3, r4⟩ := scells ((hbr.block w.heap.size (by omega)).trans HDB.out)
      by_cases hlt : k < q.next.length
      · have hk2 : k < q.outs.length := by have := H2.out; omega
        have hk3 : k < q.fin.length := by have := H3.out; omega
        have hk4 : k < q.tail.length := by have := H4.out; omega
        have low : ∀ g, F g → g < w.heap.size → wr.heap[g]? = w.heap[g]? := fun g hg hl => hBr.block g hl
        obtain ⟨g, off, rfl, hFg, x, hx, hrow⟩ := (HR1.out.frame (w' := wr) (F' := F) (fun _ h => h) low (R' := IntsIn F wr) (fun _ _ _ h => IntsIn.frame h (fun _ h => h) low)).at' hlt
        obtain ⟨g2, off2, rfl, hFg2, x2, hx2, hrow2⟩ := (HR2.out.frame (w' := wr) (F' := F) (fun _ h => h) low (R' := StrsIn F wr) (fun _ _ _ h => StrsIn.frame h (fun _ h => h) low)).at' hk2
        obtain ⟨g3, off3, rfl, hFg3, x3, hx3, rfl⟩ := (HR3.out.frame (w' := wr) (F' := F) (fun _ h => h) low (R' := BoolR) (fun _ _ _ h => h)).at' hk3
        obtain ⟨g4, off4, rfl, hFg4, x4, hx4, rfl⟩ := (HR4.out.frame (w' := wr) (F' := F) (fun _ h => h) low (R' := StrR) (fun _ _ _ h => h)).at' hk4
        have htl := HTA.out _ (List.getElem_mem hk4)
        have hgo : (k : Int) < (q.outs.length : Int) := by omega
        have hgf : (k : Int) < (q.fin.length : Int) := by omega
        have hgt : (k : Int) < (q.tail.length : Int) := by omega
        have hgn : (k : Int) < (q.next.length : Int) := by omega
        have HNO := hid (fun (h : sStateOk q.next.length q.next[k] q.outs[k] q.fin[k] q.tail[k] = false) => NO.out _ rfl (hok.out.trans (sStatesOk_not _ k _ _ _ _ hlt hk2 hk3 hk4 h)))
        have hsn := hid (sStatesOk_snoc q.next.length k _ _ _ _ hlt hk2 hk3 hk4)
        have HROW := hid hrow
        have HROW2 := hid hrow2
        clear low hrow hrow2
        by_cases ht1 : 4096 < q.tail[k].length
        · have hno := HNO.out (by simp [sStateOk]; omega)
          have ht1' : (4096 : Int) < q.tail[k].length := by omega
          clear ht1
          go_wp2
          go_ret
          exact ⟨err_eq hno.out.symm, hBr⟩
        have ht1' : ¬ (4096 : Int) < q.tail[k].length := by omega
        by_cases ht2 : q.fin[k] = false ∧ q.tail[k] ≠ []
        · obtain ⟨ht2, ht3⟩ := ht2
          have hno := HNO.out (by simp [sStateOk, ht2, ht3])
          have ht3' : (!q.tail[k].isEmpty) = true := by simpa using ht3
          clear ht1 ht3
          go_wp2
          go_ret
          exact ⟨err_eq hno.out.symm, hBr⟩
        have hQ1 : ∀ m, IntsIn F (wr.drewN m) x q.next[k] := fun m => IntsIn.frame HROW.out (fun _ h => h) (fun _ _ _ => by rw [drewN_heap])
        have hQ2 : ∀ m, StrsIn F (wr.drewN m) x2 q.outs[k] := fun m => StrsIn.frame HROW2.out (fun _ h => h) (fun _ _ _ => by rw [drewN_heap])
        have HQ1 := hid hQ1
        have HQ2 := hid hQ2
        have HOK := hid (HOU.out _ (List.getElem_mem hk2))
        have hnn : q.next.length ≤ 9223372036854775807 := by omega
        have hmid : q.fin[k] = true ∨ (q.fin[k] = false ∧ (!q.tail[k].isEmpty) = false) := by
          cases e : q.fin[k]
          · right
            have : q.tail[k] = [] := Decidable.byContradiction fun e2 => ht2 ⟨e, e2⟩
            exact ⟨rfl, by rw [this]; rfl⟩
          · left; rfl
        have HT2 := hid (show q.fin[k] = true ∨ q.tail[k] = [] by
          cases e : q.fin[k]
          · right; exact Decidable.byContradiction fun e2 => ht2 ⟨e, e2⟩
          · left; rfl)
        obtain ⟨adr, cpr, rfl, _, _⟩ := HROW.out
        obtain ⟨ado, cpo, rfl, _, _⟩ := HROW2.out
        clear ht1 ht2 hQ1 hQ2
        rcases hmid with hf | ⟨hf, hf'⟩
        all_goals
          cases hrw : sRowOk q.next.length q.next[k] q.outs[k]
          · have hno := HNO.out (by simp only [sStateOk, hrw, Bool.and_false])
            have HRW := hid hrw
            clear hrw
            go_wp2_with fail
            go_quiet ((go_at_call 65; exact quiet_same (HRW.out ▸ sRow_any q.next.length (HQ1.out _) (HQ2.out _) hnn HOK.out)))
            go_wp2
            go_ret
            exact ⟨err_eq hno.out.symm, below_drewN hBr _⟩
          · have hsn1 := hid (hsn.out.trans (show _ = true by rw [hall.out]; simp only [sStateOk, hrw]; rcases HT2.out with h | h <;> simp [h] <;> omega))
            have HRW := hid hrw
            clear hrw
            go_wp2_with fail
            go_quiet ((go_at_call 65; exact quiet_same (HRW.out ▸ sRow_any q.next.length (HQ1.out _) (HQ2.out _) hnn HOK.out)))
            go_wp2
            go_roundw
            case rel => exact ⟨k + 1, by omega, by go_num, below_drewN hbr _, hsn1⟩
            case measure => simp [intOf]; omega
      · obtain rfl : k = q.next.length := by omega
        have hyes : Hid (errOf (sqOk q) = 0) := by
          have h := hall.out
          rw [List.take_length, show q.outs.take q.next.length = q.outs by rw [← H2.out, List.take_length], show q.fin.take q.next.length = q.fin by rw [← H3.out, List.take_length], show q.tail.take q.next.length = q.tail by rw [← H4.out, List.take_length]] at h
          exact hid (errOf_true (hok.out.trans h))
        clear hall
        go_wp2
        go_ret
        exact ⟨err_eq hyes.out.symm, hBr⟩
end Go.Proofs.Ytdokeelodcckoaa.Im
