/-
  Few: whether an automaton, a transducer, a rule, classes, an image are small.
-/
import Derived.Test.YtdokeelodcckoaaImgRf
namespace Go.Proofs.Ytdokeelodcckoaa.Im
open Go.RowKit Go.Lib

def Says (w : World) (e : Ending) (w' : World) : Prop := (∃ b : Bool, e = .returned (.bool b)) ∧ Below w.heap.size w w'

set_option maxRecDepth 100000 in
set_option maxHeartbeats 2000000 in
theorem dfew_any {F : Nat → Prop} {w : World} {a b c : Value} {d : Dfa} (h : DfaIn F w a b c d) (hF : ∀ g, F g → g < w.heap.size) :
    Calls Try.prog 35 #[.agg #[a, b, c]] w (Says w) := by
  have HD := hid h
  obtain ⟨x1, p1, x2, p2, x3, p3, rfl, rfl, rfl⟩ := h.shape
  generalize hW0 : w.alloc (.cells #[.slice x1 d.cls.length p1, .slice x2 d.next.length p2, .slice x3 d.fin.length p3] 46) = W0
  have hDb : W0.heap[w.heap.size]? = some (.cells #[.slice x1 d.cls.length p1, .slice x2 d.next.length p2, .slice x3 d.fin.length p3] 46 (0, 0)) := by rw [← hW0]; exact heap_alloc_new _ _
  have hB0 : Below w.heap.size w W0 := by rw [← hW0]; exact (Below.refl _ _).alloc (Nat.le_refl _) _
  have HW0 := hid hW0
  obtain ⟨q0, q1, q2⟩ := dcells hDb
  obtain ⟨ad2, cp2, e2, hm2, hr2⟩ := h.next.frame (F' := F) (w' := W0) (fun _ h => h) (fun g hg _ => hB0.block g (hF g hg))
  cases e2
  have HR2 := hid hr2
  unfold maxLen at hm2
  clear h hDb hr2 hW0
  go_enter Try.func35, Try.ntmps35
  go_wp2_with fail
  rw [HW0.out]
  go_loop [3] (fun v => ∃ k : Nat, k ≤ d.next.length ∧ v = .int .i64 k) (fun v => d.next.length - (intOf v).toNat)
  case atStart => exact ⟨0, Nat.zero_le _, rfl⟩
  case round =>
    obtain ⟨k, hk, rfl⟩ := hrel
    by_cases h40 : d.next.length ≤ 40
    · have h40' : (d.next.length : Int) ≤ 40 := by omega
      by_cases hlt : k < d.next.length
      · obtain ⟨g, off, rfl, hFg, x, hx, hrow⟩ := HR2.out.at' hlt
        obtain ⟨adr, cpr, rfl, hmr, hrr⟩ := hrow
        clear hrr
        unfold maxLen at hmr
        by_cases h20 : d.next[k].length ≤ 20
        · have h20' : ¬ (20 : Int) < d.next[k].length := by omega
          go_wp2
          go_round
          case rel => exact ⟨k + 1, by omega, by go_num⟩
          case measure => simp [intOf]; omega
        · have h20' : (20 : Int) < d.next[k].length := by omega
          go_wp2
          go_ret
          exact ⟨⟨_, rfl⟩, hB0⟩
      · go_wp2
        all_goals
          go_ret
          exact ⟨⟨_, rfl⟩, hB0⟩
    · have h40' : ¬ (d.next.length : Int) ≤ 40 := by omega
      go_wp2
      all_goals
        go_ret
        exact ⟨⟨_, rfl⟩, hB0⟩

set_option maxRecDepth 100000 in
set_option maxHeartbeats 2000000 in
theorem sfew_any {F : Nat → Prop} {w : World} {f a b c d : Value} {q : Sq} (h : SqIn F w f a b c d q) (hF : ∀ g, F g → g < w.heap.size) :
    Calls Try.prog 36 #[.agg #[f, a, b, c, d]] w (Says w) := by
  obtain ⟨x1, p1, x2, p2, x3, p3, x4, p4, rfl, rfl, rfl, rfl, rfl⟩ := h.shape
  generalize hW0 : w.alloc (.cells #[.string ⟨q.front.toArray⟩, .slice x1 q.next.length p1, .slice x2 q.outs.length p2, .slice x3 q.fin.length p3, .slice x4 q.tail.length p4] 50) = W0
  have hDb : W0.heap[w.heap.size]? = some (.cells #[.string ⟨q.front.toArray⟩, .slice x1 q.next.length p1, .slice x2 q.outs.length p2, .slice x3 q.fin.length p3, .slice x4 q.tail.length p4] 50 (0, 0)) := by rw [← hW0]; exact heap_alloc_new _ _
  have hB0 : Below w.heap.size w W0 := by rw [← hW0]; exact (Below.refl _ _).alloc (Nat.le_refl _) _
  have HW0 := hid hW0
  obtain ⟨q0, q1, q2, q3, q4⟩ := scells hDb
  obtain ⟨ad2, cp2, e2, hm2, hr2⟩ := h.outs.frame (F' := F) (w' := W0) (fun _ h => h) (fun g hg _ => hB0.block g (hF g hg))
  cases e2
  have HR2 := hid hr2
  unfold maxLen at hm2
  clear h hDb hr2 hW0
  go_enter Try.func36, Try.ntmps36
  by_cases h1 : 12 < q.next.length
  · have h1' : (12 : Int) < q.next.length := by omega
    go_wp2_with fail
    rw [HW0.out]
    go_wp2
    go_ret
    exact ⟨⟨_, rfl⟩, hB0⟩
  · have h1' : ¬ (12 : Int) < q.next.length := by omega
    by_cases h2 : 13 < q.outs.length
    · have h2' : (13 : Int) < q.outs.length := by omega
      go_wp2_with fail
      rw [HW0.out]
      go_wp2
      go_ret
      exact ⟨⟨_, rfl⟩, hB0⟩
    · have h2' : ¬ (13 : Int) < q.outs.length := by omega
      by_cases h3 : 5000 < q.front.length
      · have h3' : (5000 : Int) < q.front.length := by omega
        go_wp2_with fail
        rw [HW0.out]
        go_wp2
        go_ret
        exact ⟨⟨_, rfl⟩, hB0⟩
      · have h3' : ¬ (5000 : Int) < q.front.length := by omega
        go_wp2_with fail
        rw [HW0.out]
        go_wp2_with fail
        go_loop [3] (fun v => ∃ k : Nat, k ≤ q.outs.length ∧ v = .int .i64 k) (fun v => q.outs.length - (intOf v).toNat)
        case atStart => exact ⟨0, Nat.zero_le _, rfl⟩
        case round =>
          obtain ⟨k, hk, rfl⟩ := hrel
          by_cases hlt : k < q.outs.length
          · obtain ⟨g, off, rfl, hFg, x, hx, hrow⟩ := HR2.out.at' hlt
            obtain ⟨adr, cpr, rfl, hmr, hrr⟩ := hrow
            have HRR := hid hrr
            clear hrr
            unfold maxLen at hmr
            by_cases h300 : 300 < q.outs[k].length
            · have h300' : (300 : Int) < q.outs[k].length := by omega
              go_wp2
              go_ret
              exact ⟨⟨_, rfl⟩, hB0⟩
            · have h300' : ¬ (300 : Int) < q.outs[k].length := by omega
              go_wp2_with fail
              go_loop [4, 5] (fun u v => ∃ (j : Nat) (m : Int), j ≤ q.outs[k].length ∧ v = .int .i64 j ∧ u = .int .i64 m) (fun u v => q.outs[k].length - (intOf v).toNat)
              case atStart => exact ⟨0, 0, Nat.zero_le _, rfl, rfl⟩
              case round =>
                obtain ⟨j, m, hj, rfl, rfl⟩ := hrel
                by_cases hjl : j < q.outs[k].length
                · obtain ⟨g2, off2, rfl, hFg2, y, hy, rfl⟩ := HRR.out.at' hjl
                  go_wp2
                  go_round
                  case rel => exact ⟨j + 1, _, by omega, by go_num, rfl⟩
                  case measure => simp [intOf]; omega
                · by_cases hm : 20000 < m
                  · go_wp2
                    go_ret
                    exact ⟨⟨_, rfl⟩, hB0⟩
                  · go_wp2
                    go_round
                    case rel => exact ⟨k + 1, by omega, by go_num⟩
                    case measure => simp [intOf]; omega
          · go_wp2
            go_ret
            exact ⟨⟨_, rfl⟩, hB0⟩
end Go.Proofs.Ytdokeelodcckoaa.Im

namespace Go.Proofs.Ytdokeelodcckoaa.Im
open Go.RowKit Go.Lib

set_option maxRecDepth 100000 in
set_option maxHeartbeats 2000000 in
theorem rfew_any {F : Nat → Prop} {w : World} {cs : List Value} {r : Rule} (hr : RuleIn F w cs r) (hF : ∀ g, F g → g < w.heap.size) :
    Calls Try.prog 19 #[.agg cs.toArray] w (Says w) := by
  obtain ⟨rof, rleft, rright, rout, rm, rby⟩ := r
  obtain ⟨a1, b1, c1, a2, b2, c2, a3, b3, c3, f, na, ou, fi, ta, rfl, h1, h2, h3, h4⟩ := hr.is
  simp only at h1 h2 h3 h4
  generalize hW0 : w.alloc (.cells #[a1, b1, c1, a2, b2, c2, a3, b3, c3, .string ⟨rout.toArray⟩, .bool rm, f, na, ou, fi, ta] 52) = W0
  have hDb : W0.heap[w.heap.size]? = some (.cells #[a1, b1, c1, a2, b2, c2, a3, b3, c3, .string ⟨rout.toArray⟩, .bool rm, f, na, ou, fi, ta] 52 (0, 0)) := by rw [← hW0]; exact heap_alloc_new _ _
  have hB0 : Below w.heap.size w W0 := by rw [← hW0]; exact (Below.refl _ _).alloc (Nat.le_refl _) _
  have hz0 : W0.heap.size = w.heap.size + 1 := by rw [← hW0]; simp
  have LOW := hid (show ∀ w' : World, Below W0.heap.size W0 w' → ∀ g, F g → g < w.heap.size → w'.heap[g]? = w.heap[g]? from fun w' hu g hg _ => (hu.block g (by have := hF g hg; omega)).trans (hB0.block g (hF g hg)))
  have HFB := hid (show ∀ w' : World, Below W0.heap.size W0 w' → ∀ g, F g → g < w'.heap.size from fun w' hu g hg => by have := hF g hg; have := hu.size; omega)
  have HDB := hid hDb
  have HW0 := hid hW0
  obtain ⟨q0, q1, q2, q3, q4, q5, q6, q7, q8, q9, q10, q11, q12, q13, q14, q15⟩ := rcells hDb
  clear hDb hW0 hr
  go_enter Try.func19, Try.ntmps19
  go_wp2_with fail
  rw [HW0.out]
  refine (dfew_any (h1.frame (fun _ h => h) (LOW.out W0 (Below.refl _ _))) (HFB.out W0 (Below.refl _ _))).mono ?_
  rintro e w1 ⟨⟨m1, rfl⟩, hb1⟩
  obtain ⟨q0, q1, q2, q3, q4, q5, q6, q7, q8, q9, q10, q11, q12, q13, q14, q15⟩ := rcells ((hb1.block _ (by omega)).trans HDB.out)
  cases m1
  · go_wp2
    go_ret
    exact ⟨⟨_, rfl⟩, hB0.trans (hb1.mono (by omega))⟩
  · go_wp2_with fail
    refine (dfew_any (h2.frame (fun _ h => h) (LOW.out w1 hb1)) (HFB.out w1 hb1)).mono ?_
    rintro e w2 ⟨⟨m2, rfl⟩, hb2⟩
    have hb12 := hb1.trans (hb2.mono hb1.size)
    clear q0 q1 q2 q3 q4 q5 q6 q7 q8 q9 q10 q11 q12 q13 q14 q15
    obtain ⟨q0, q1, q2, q3, q4, q5, q6, q7, q8, q9, q10, q11, q12, q13, q14, q15⟩ := rcells ((hb12.block _ (by omega)).trans HDB.out)
    cases m2
    · go_wp2
      go_ret
      exact ⟨⟨_, rfl⟩, hB0.trans (hb12.mono (by omega))⟩
    · go_wp2_with fail
      refine (dfew_any (h3.frame (fun _ h => h) (LOW.out w2 hb12)) (HFB.out w2 hb12)).mono ?_
      rintro e w3 ⟨⟨m3, rfl⟩, hb3⟩
      have hb13 := hb12.trans (hb3.mono hb12.size)
      clear q0 q1 q2 q3 q4 q5 q6 q7 q8 q9 q10 q11 q12 q13 q14 q15
      obtain ⟨q0, q1, q2, q3, q4, q5, q6, q7, q8, q9, q10, q11, q12, q13, q14, q15⟩ := rcells ((hb13.block _ (by omega)).trans HDB.out)
      cases m3
      · go_wp2
        go_ret
        exact ⟨⟨_, rfl⟩, hB0.trans (hb13.mono (by omega))⟩
      · go_wp2_with fail
        refine (sfew_any (h4.frame (fun _ h => h) (LOW.out w3 hb13)) (HFB.out w3 hb13)).mono ?_
        rintro e w4 ⟨⟨m4, rfl⟩, hb4⟩
        have hb14 := hb13.trans (hb4.mono hb13.size)
        clear q0 q1 q2 q3 q4 q5 q6 q7 q8 q9 q10 q11 q12 q13 q14 q15
        obtain ⟨q0, q1, q2, q3, q4, q5, q6, q7, q8, q9, q10, q11, q12, q13, q14, q15⟩ := rcells ((hb14.block _ (by omega)).trans HDB.out)
        cases m4
        · go_wp2
          go_ret
          exact ⟨⟨_, rfl⟩, hB0.trans (hb14.mono (by omega))⟩
        · go_wp2
          go_ret
          exact ⟨⟨_, rfl⟩, hB0.trans (hb14.mono (by omega))⟩

/-- the answer; if it is yes, P holds -/
def SaysIf (P : Prop) (w : World) (e : Ending) (w' : World) : Prop := (∃ b : Bool, e = .returned (.bool b) ∧ (b = true → P)) ∧ Below w.heap.size w w'
set_option maxRecDepth 100000 in
set_option maxHeartbeats 2000000 in
theorem cfew_any {F : Nat → Prop} {w : World} {v : Value} {l : List Cls} (hl : ClsIn F w v l) (hF : ∀ g, F g → g < w.heap.size) :
    Calls Try.prog 20 #[v] w (SaysIf (l.length ≤ 8 → ∀ c ∈ l, c.name.length ≤ 100) w) := by
  obtain ⟨ad, cp, rfl, hm, hr⟩ := hl
  have HR := hid hr
  unfold maxLen at hm
  clear hr
  go_enter Try.func20, Try.ntmps20
  go_wp2_with fail
  go_loopw [3] (fun v wr => ∃ k : Nat, k ≤ l.length ∧ v = .int .i64 k ∧ Below w.heap.size w wr ∧ Hid (∀ c ∈ l.take k, c.name.length ≤ 100)) (fun v _ => l.length - (intOf v).toNat)
  case atStart => exact ⟨0, Nat.zero_le _, rfl, Below.refl _ _, hid (by simp)⟩
  case round =>
    obtain ⟨k, hk, rfl, hbr, hnm⟩ := hrel
    by_cases h8 : l.length ≤ 8
    · have h8' : (l.length : Int) ≤ 8 := by omega
      by_cases hlt : k < l.length
      · obtain ⟨g, off, rfl, hFg, hall⟩ := HR.out (by intro e; subst e; simp at hlt)
        obtain ⟨cs, hcl, hcc, x, p, y, q, z, s, rfl, hd⟩ := hall k hlt
        have hgl := hF g hFg
        have c0 := (cell_heap (hbr.block g hgl)).trans (hcc 0 _ rfl)
        have c1 := (cell_heap (hbr.block g hgl)).trans (hcc 1 _ rfl)
        have c2 := (cell_heap (hbr.block g hgl)).trans (hcc 2 _ rfl)
        have c3 := (cell_heap (hbr.block g hgl)).trans (hcc 3 _ rfl)
        rw [Nat.add_zero] at c0
        go_wp2_with fail
        refine (dfew_any (hd.frame (w' := wr) (fun _ h => h) (fun g hg _ => hbr.block g (hF g hg))) (fun g hg => Nat.lt_of_lt_of_le (hF g hg) hbr.size)).mono ?_
        rintro e w1 ⟨⟨m1, rfl⟩, hb1⟩
        have hbw := hbr.trans (hb1.mono hbr.size)
        have c4 := (cell_heap (hbw.block g hgl)).trans (hcc 0 _ rfl)
        rw [Nat.add_zero] at c4
        cases m1
        · go_wp2
          go_ret
          exact ⟨⟨_, rfl, fun h => by cases h⟩, hbw⟩
        · by_cases h100 : 100 < l[k].name.length
          · have h100' : (100 : Int) < l[k].name.length := by omega
            go_wp2
            go_ret
            exact ⟨⟨_, rfl, fun h => by cases h⟩, hbw⟩
          · have h100' : ¬ (100 : Int) < l[k].name.length := by omega
            go_wp2
            go_roundw
            case rel => exact ⟨k + 1, by omega, by go_num, hbw, hid (fun c hc => by
              rw [take_succ' _ _ hlt] at hc
              rcases List.mem_append.1 hc with h | h
              · exact hnm.out c h
              · rw [List.mem_singleton.1 h]; omega)⟩
            case measure => simp [intOf]; omega
      · have HNM := hid (show ∀ c ∈ l, c.name.length ≤ 100 from fun c hc => hnm.out c (by rw [List.take_of_length_le (by omega)]; exact hc))
        go_wp2
        all_goals
          go_ret
          exact ⟨⟨_, rfl, fun _ _ => HNM.out⟩, hbr⟩
    · have h8' : ¬ (l.length : Int) ≤ 8 := by omega
      go_wp2
      all_goals
        go_ret
        exact ⟨⟨_, rfl, fun _ => trivial⟩, hbr⟩

set_option maxRecDepth 100000 in
set_option maxHeartbeats 2000000 in
theorem few_any {F : Nat → Prop} {w : World} {a b : Value} {x : Img} (hx : ImgIn F w a b x) (hF : ∀ g, F g → g < w.heap.size) :
    Calls Try.prog 8 #[.agg #[a, b]] w (SaysIf (∀ c ∈ x.classes, c.name.length ≤ 100) w) := by
  obtain ⟨h1, h2⟩ := hx
  have H2 := hid h2
  obtain ⟨ad1, cp1, rfl, hm1, hr1⟩ := h1
  obtain ⟨ad2, cp2, rfl, hm2, _⟩ := h2
  unfold maxLen at hm1 hm2
  have HR1 := hid hr1
  have HFF := hid hF
  clear hr1 hF
  go_enter Try.func8, Try.ntmps8
  go_wp2_with fail
  generalize hW0 : w.alloc (.cells #[.slice ad1 x.rules.length cp1, .slice ad2 x.classes.length cp2] 25) = W0
  have HDB : Hid (W0.heap[w.heap.size]? = some (.cells #[.slice ad1 x.rules.length cp1, .slice ad2 x.classes.length cp2] 25 (0, 0))) := by rw [← hW0]; exact hid (heap_alloc_new _ _)
  have hz0 : W0.heap.size = w.heap.size + 1 := by rw [← hW0]; simp
  have hB0 : Below w.heap.size w W0 := by rw [← hW0]; exact (Below.refl _ _).alloc (Nat.le_refl _) _
  clear hW0
  go_loopw [3] (fun v wr => ∃ k : Nat, k ≤ x.rules.length ∧ v = .int .i64 k ∧ Below W0.heap.size W0 wr) (fun v _ => x.rules.length - (intOf v).toNat)
  case atStart => exact ⟨0, Nat.zero_le _, rfl, Below.refl _ _⟩
  case round =>
    obtain ⟨k, hk, rfl, hbr⟩ := hrel
    have hBr : Below w.heap.size w wr := hB0.trans (hbr.mono (by omega))
    have hsz := hbr.size
    obtain ⟨q0, q1⟩ := twocells ((hbr.block w.heap.size (by omega)).trans HDB.out)
    by_cases h4 : x.rules.length ≤ 4
    · have h4' : (x.rules.length : Int) ≤ 4 := by omega
      by_cases hlt : k < x.rules.length
      · obtain ⟨g, off, rfl, hFg, hcells⟩ := HR1.out (by intro e; rw [e] at hlt; simp at hlt)
        obtain ⟨cs, hcs, hc, hrule⟩ := hcells k hlt
        have low : ∀ g, F g → g < w.heap.size → wr.heap[g]? = w.heap[g]? := fun g hg hl => hBr.block g hl
        have hc' : ∀ j c, cs[j]? = some c → wr.cell? ⟨g, off + k * 16 + j, none⟩ = some c := fun j c h => (cell_heap (low g hFg (HFF.out g hFg))).trans (hc j c h)
        obtain ⟨x1, p1, y1, q1, z1, s1, x2, p2, y2, q2, z2, s2, x3, p3, y3, q3, z3, s3, x4, p4, y4, q4, z4, s4, v4, t4, hcs2⟩ := hrule.shape
        rw [hcs2] at hc' hrule
        unfold ruleC at hc' hrule
        have k0 := hc' 0 _ rfl
        rw [Nat.add_zero] at k0
        have k1 := hc' 1 _ rfl
        have k2 := hc' 2 _ rfl
        have k3 := hc' 3 _ rfl
        have k4 := hc' 4 _ rfl
        have k5 := hc' 5 _ rfl
        have k6 := hc' 6 _ rfl
        have k7 := hc' 7 _ rfl
        have k8 := hc' 8 _ rfl
        have k9 := hc' 9 _ rfl
        have k10 := hc' 10 _ rfl
        have k11 := hc' 11 _ rfl
        have k12 := hc' 12 _ rfl
        have k13 := hc' 13 _ rfl
        have k14 := hc' 14 _ rfl
        have k15 := hc' 15 _ rfl
        have HRL := hid (hrule.frame (w' := wr) (fun _ h => h) low)
        clear hc hc' hrule hcells
        go_wp2_with fail
        refine (rfew_any HRL.out (fun g hg => Nat.lt_of_lt_of_le (HFF.out g hg) hBr.size)).mono ?_
        rintro e w1 ⟨⟨m1, rfl⟩, hb1⟩
        have hbw := hBr.trans (hb1.mono hBr.size)
        have hbw0 := hbr.trans (hb1.mono hbr.size)
        cases m1
        · go_wp2
          go_ret
          exact ⟨⟨_, rfl, fun h => by cases h⟩, hbw⟩
        · go_wp2
          go_roundw
          case rel => exact ⟨k + 1, by omega, by go_num, hbw0⟩
          case measure => simp [intOf]; omega
      · by_cases h8 : x.classes.length ≤ 8
        · have h8' : (x.classes.length : Int) ≤ 8 := by omega
          go_wp2_with fail
          refine (cfew_any (H2.out.frame (w' := wr) (fun _ h => h) (fun g hg hl => hBr.block g hl)) (fun g hg => Nat.lt_of_lt_of_le (HFF.out g hg) hBr.size)).mono ?_
          rintro e w1 ⟨⟨m1, rfl, hm1⟩, hb1⟩
          have HM1 := hid hm1
          clear hm1
          go_wp2
          go_ret
          exact ⟨⟨_, rfl, fun h => HM1.out h h8⟩, hBr.trans (hb1.mono hBr.size)⟩
        · have h8' : ¬ (x.classes.length : Int) ≤ 8 := by omega
          go_wp2
          go_ret
          exact ⟨⟨_, rfl, fun h => by cases h⟩, hBr⟩
    · have h4' : ¬ (x.rules.length : Int) ≤ 4 := by omega
      go_wp2
      all_goals
        go_ret
        exact ⟨⟨_, rfl, fun h => by cases h⟩, hBr⟩
end Go.Proofs.Ytdokeelodcckoaa.Im
