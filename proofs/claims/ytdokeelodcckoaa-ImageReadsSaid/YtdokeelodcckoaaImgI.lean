/-
  The contract of image.Check.
-/
import Derived.Test.YtdokeelodcckoaaImgT
namespace Go.Proofs.Ytdokeelodcckoaa.Im
open Go.RowKit Go.Lib

abbrev RulesIn (F : Nat → Prop) (w : World) : Value → List Rule → Prop := RowK 16 F w (RuleIn F w)
theorem RulesIn.frame {F F' : Nat → Prop} {w w' : World} {v : Value} {l : List Rule} (h : RulesIn F w v l) (hF : ∀ g, F g → F' g) (hw : ∀ g, F g → g < w.heap.size → w'.heap[g]? = w.heap[g]?) : RulesIn F' w' v l := RowK.frame h hF hw fun _ _ _ h => h.frame hF hw
structure ImgIn (F : Nat → Prop) (w : World) (a b : Value) (x : Img) : Prop where
  rules : RulesIn F w a x.rules
  classes : ClsIn F w b x.classes
theorem ImgIn.frame {F F' : Nat → Prop} {w w' : World} {a b : Value} {x : Img} (h : ImgIn F w a b x) (hF : ∀ g, F g → F' g) (hw : ∀ g, F g → g < w.heap.size → w'.heap[g]? = w.heap[g]?) : ImgIn F' w' a b x := ⟨h.rules.frame hF hw, h.classes.frame hF hw⟩
structure ImgLens (x : Img) : Prop where
  rules : ∀ r ∈ x.rules, RuleLens r
  names : ∀ c ∈ x.classes, c.name.length ≤ 140737488351232
/-- a rule's sixteen cells, written out -/
def ruleC (r : Rule) (x1 : Option Addr) (p1 : Nat) (y1 : Option Addr) (q1 : Nat) (z1 : Option Addr) (s1 : Nat) (x2 : Option Addr) (p2 : Nat) (y2 : Option Addr) (q2 : Nat) (z2 : Option Addr) (s2 : Nat) (x3 : Option Addr) (p3 : Nat) (y3 : Option Addr) (q3 : Nat) (z3 : Option Addr) (s3 : Nat) (x4 : Option Addr) (p4 : Nat) (y4 : Option Addr) (q4 : Nat) (z4 : Option Addr) (s4 : Nat) (v4 : Option Addr) (t4 : Nat) : List Value :=
  [.slice x1 r.of.cls.length p1, .slice y1 r.of.next.length q1, .slice z1 r.of.fin.length s1, .slice x2 r.left.cls.length p2, .slice y2 r.left.next.length q2, .slice z2 r.left.fin.length s2, .slice x3 r.right.cls.length p3, .slice y3 r.right.next.length q3, .slice z3 r.right.fin.length s3, .string ⟨r.out.toArray⟩, .bool r.mapped, .string ⟨r.by_.front.toArray⟩, .slice x4 r.by_.next.length p4, .slice y4 r.by_.outs.length q4, .slice z4 r.by_.fin.length s4, .slice v4 r.by_.tail.length t4]
theorem RuleIn.shape {F : Nat → Prop} {w : World} {cs : List Value} {r : Rule} (h : RuleIn F w cs r) : ∃ x1 p1 y1 q1 z1 s1 x2 p2 y2 q2 z2 s2 x3 p3 y3 q3 z3 s3 x4 p4 y4 q4 z4 s4 v4 t4, cs = ruleC r x1 p1 y1 q1 z1 s1 x2 p2 y2 q2 z2 s2 x3 p3 y3 q3 z3 s3 x4 p4 y4 q4 z4 s4 v4 t4 := by
  obtain ⟨a1, b1, c1, a2, b2, c2, a3, b3, c3, f, na, ou, fi, ta, rfl, h1, h2, h3, h4⟩ := h.is
  obtain ⟨x1, p1, y1, q1, z1, s1, rfl, rfl, rfl⟩ := h1.shape
  obtain ⟨x2, p2, y2, q2, z2, s2, rfl, rfl, rfl⟩ := h2.shape
  obtain ⟨x3, p3, y3, q3, z3, s3, rfl, rfl, rfl⟩ := h3.shape
  obtain ⟨x4, p4, y4, q4, z4, s4, v4, t4, rfl, rfl, rfl, rfl, rfl⟩ := h4.shape
  exact ⟨_, _, _, _, _, _, _, _, _, _, _, _, _, _, _, _, _, _, _, _, _, _, _, _, _, _, rfl⟩
theorem twocells {w : World} {D : Nat} {T : TypeId} {v0 v1 : Value} (h : w.heap[D]? = some (.cells #[v0, v1] T (0, 0))) : w.cell? ⟨D, 0, none⟩ = some v0 ∧ w.cell? ⟨D, 1, none⟩ = some v1 := ⟨cell_blk h rfl, cell_blk h rfl⟩

set_option maxRecDepth 100000 in
set_option maxHeartbeats 2000000 in
theorem imgCheck_any {F : Nat → Prop} {w : World} {a b : Value} {x : Img} (hx : ImgIn F w a b x) (hF : ∀ g, F g → g < w.heap.size) (hlens : ImgLens x) :
    Calls Try.prog 12 #[.agg #[a, b]] w fun e w' => e = .returned (.int .i64 (errOf (imgOk nameOk x))) ∧ Below w.heap.size w w' := by
  obtain ⟨h1, h2⟩ := hx
  have H2 := hid h2
  obtain ⟨ad1, cp1, rfl, hm1, hr1⟩ := h1
  obtain ⟨ad2, cp2, rfl, hm2, hr2⟩ := h2
  unfold maxLen at hm1 hm2
  have HR1 := hid hr1
  have HFF := hid hF
  have HL := hid hlens
  clear hr1 hr2 hF hlens
  by_cases h64 : 64 < x.rules.length
  · have hno := hid (errOf_false (show imgOk nameOk x = false by simp [imgOk]; omega))
    have h64' : (64 : Int) < x.rules.length := by omega
    clear h64
    go_enter Try.func12, Try.ntmps12
    go_wp2
    go_ret
    exact ⟨err_eq hno.out.symm, (Below.refl _ w).alloc (Nat.le_refl _) _⟩
  · have hok := hid (show imgOk nameOk x = (x.rules.all ruleOk && (decide (x.classes.length ≤ 64) && classesOk nameOk [] x.classes)) by unfold imgOk; rw [show decide (x.rules.length ≤ 64) = true by simp; omega]; simp [Bool.and_assoc])
    have h64' : ¬ (64 : Int) < x.rules.length := by omega
    go_enter Try.func12, Try.ntmps12
    go_wp2_with fail
    generalize hW0 : w.alloc (.cells #[.slice ad1 x.rules.length cp1, .slice ad2 x.classes.length cp2] 25) = W0
    have HDB : Hid (W0.heap[w.heap.size]? = some (.cells #[.slice ad1 x.rules.length cp1, .slice ad2 x.classes.length cp2] 25 (0, 0))) := by rw [← hW0]; exact hid (heap_alloc_new _ _)
    have hz0 : W0.heap.size = w.heap.size + 1 := by rw [← hW0]; simp
    have hB0 : Below w.heap.size w W0 := by rw [← hW0]; exact (Below.refl _ _).alloc (Nat.le_refl _) _
    clear hW0
    go_loopw [12] (fun v wr => ∃ k : Nat, k ≤ x.rules.length ∧ v = .int .i64 k ∧ Below W0.heap.size W0 wr ∧ Hid ((x.rules.take k).all ruleOk = true)) (fun v _ => x.rules.length - (intOf v).toNat)
    case atStart => exact ⟨0, Nat.zero_le _, rfl, Below.refl _ _, hid (by simp)⟩
    case round =>
      obtain ⟨k, hk, rfl, hbr, hall⟩ := hrel
      have hBr : Below w.heap.size w wr := hB0.trans (hbr.mono (by omega))
      have hsz := hbr.size
      by_cases hlt : k < x.rules.length
      · obtain ⟨g, off, rfl, hFg, hcells⟩ := HR1.out (by intro e; rw [e] at hlt; simp at hlt)
        obtain ⟨cs, hcs, hc, hrule⟩ := hcells k hlt
        have low : ∀ g, F g → g < w.heap.size → wr.heap[g]? = w.heap[g]? := fun g hg hl => hBr.block g hl
        have hc' : ∀ j c, cs[j]? = some c → wr.cell? ⟨g, off + k * 16 + j, none⟩ = some c := fun j c h => (cell_heap (low g hFg (HFF.out g hFg))).trans (hc j c h)
        obtain ⟨x1, p1, y1, q1, z1, s1, x2, p2, y2, q2, z2, s2, x3, p3, y3, q3, z3, s3, x4, p4, y4, q4, z4, s4, v4, t4, hcs2⟩ := hrule.shape
        rw [hcs2] at hc' hrule
        unfold ruleC at hc' hrule
        have k0 := hc' 0 _ rfl
        rw [Nat.add_zero] at k0
        have k1 := hc' 1 _ rfl
        have k2 := hc' 2 _ rfl
        have k3 := hc' 3 _ rfl
        have k4 := hc' 4 _ rfl
        have k5 := hc' 5 _ rfl
        have k6 := hc' 6 _ rfl
        have k7 := hc' 7 _ rfl
        have k8 := hc' 8 _ rfl
        have k9 := hc' 9 _ rfl
        have k10 := hc' 10 _ rfl
        have k11 := hc' 11 _ rfl
        have k12 := hc' 12 _ rfl
        have k13 := hc' 13 _ rfl
        have k14 := hc' 14 _ rfl
        have k15 := hc' 15 _ rfl
        have HRU := hid hrule
        have HLR := hid (HL.out.rules _ (List.getElem_mem hlt))
        clear hcs2 hc' hrule hcells hc hcs low
        rcases (Bool.eq_false_or_eq_true (ruleOk x.rules[k])).symm with hz | hz
        · have hno := hid (errOf_false (hok.out.trans (show _ = false by rw [all_not (List.getElem_mem hlt) hz]; rfl)))
          have HZ := hid hz
          clear hz
          go_wp2_with (go_at_call 28; refine (ruleCheck_any (HRU.out.frame (F' := F) (fun _ h => h) (fun g _ hl => (hBr.alloc (by omega) _).block g hl)) (fun g hg => by have := HFF.out g hg; simp; omega) HLR.out).mono ?_; rintro e w1 ⟨rfl, hb1⟩; rw [HZ.out, errOf_false rfl])
          go_ret
          exact ⟨err_eq hno.out.symm, (hBr.alloc (by omega) _).trans (hb1.mono (by simp; omega))⟩
        · have hsn := hid (all_snoc hlt hall.out hz)
          have HZ := hid hz
          clear hz
          go_wp2_with (go_at_call 28; refine (ruleCheck_any (HRU.out.frame (F' := F) (fun _ h => h) (fun g _ hl => (hBr.alloc (by omega) _).block g hl)) (fun g hg => by have := HFF.out g hg; simp; omega) HLR.out).mono ?_; rintro e w1 ⟨rfl, hb1⟩; rw [HZ.out, errOf_true rfl])
          go_roundw
          case rel => exact ⟨k + 1, by omega, by go_num, (hbr.alloc (by omega) _).trans (hb1.mono (by simp; omega)), hsn⟩
          case measure => simp [intOf]; omega
      · obtain rfl : k = x.rules.length := by omega
        have hfin := hid (show imgOk nameOk x = (decide (x.classes.length ≤ 64) && classesOk nameOk [] x.classes) by have h := hall.out; rw [List.take_length] at h; rw [hok.out, h]; rfl)
        obtain ⟨r0, r1⟩ := twocells ((hbr.block w.heap.size (by omega)).trans HDB.out)
        have HCL := hid (H2.out.frame (F' := F) (fun _ h => h) (fun g _ hl => hBr.block g hl))
        clear hall
        go_wp2_with (go_at_call 29; refine (tokCheck_any HCL.out (fun g hg => by have := HFF.out g hg; omega) HL.out.names).mono ?_; rintro e w1 ⟨rfl, hb1⟩)
        go_ret
        exact ⟨err_eq (by rw [hfin.out]), hBr.trans (hb1.mono (by omega))⟩
end Go.Proofs.Ytdokeelodcckoaa.Im
