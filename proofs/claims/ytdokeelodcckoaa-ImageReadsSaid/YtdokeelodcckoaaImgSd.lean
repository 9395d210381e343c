/-
  Whether two images are the same, as far as they are looked at.
-/
import Derived.Test.YtdokeelodcckoaaImgSx
import Derived.Deep.RegionHeld3
namespace Go.Proofs.Ytdokeelodcckoaa.Im
open Go.RowKit Go.Lib

structure RuleEq (r r' : Rule) : Prop where
  mapped : r.mapped = r'.mapped
  out : r.out = r'.out
  by_ : SqEq r.by_ r'.by_
  of : r.of = r'.of
  left : r.left = r'.left
  right : r.right = r'.right
structure ImgEq (x y : Img) : Prop where
  rlen : x.rules.length = y.rules.length
  clen : x.classes.length = y.classes.length
  rules : ∀ (i : Nat) (r r' : Rule), x.rules[i]? = some r → y.rules[i]? = some r' → RuleEq r r'
  classes : x.classes = y.classes
theorem RuleIn.parts {F : Nat → Prop} {w : World} {r : Rule} {a1 b1 c1 a2 b2 c2 a3 b3 c3 o m f na ou fi ta : Value} (h : RuleIn F w [a1, b1, c1, a2, b2, c2, a3, b3, c3, o, m, f, na, ou, fi, ta] r) : DfaIn F w a1 b1 c1 r.of ∧ DfaIn F w a2 b2 c2 r.left ∧ DfaIn F w a3 b3 c3 r.right ∧ SqIn F w f na ou fi ta r.by_ := by
  obtain ⟨_, _, _, _, _, _, _, _, _, _, _, _, _, _, h0, h1, h2, h3, h4⟩ := h.is
  cases h0
  exact ⟨h1, h2, h3, h4⟩
theorem Below.last {B : Nat} {w w1 w2 : World} (h : Below B w w1) (k : Below w1.heap.size w1 w2) (hB : B ≤ w1.heap.size) : Below B w w2 := h.trans (k.mono hB)
theorem rule_snoc {l m : List Rule} {k : Nat} (h : ∀ (i : Nat) (r r' : Rule), i < k → l[i]? = some r → m[i]? = some r' → RuleEq r r') {a b : Rule} (ha : l[k]? = some a) (hb : m[k]? = some b) (he : RuleEq a b) :
    ∀ (i : Nat) (r r' : Rule), i < k + 1 → l[i]? = some r → m[i]? = some r' → RuleEq r r' := by
  intro i r r' hi h1 h2
  by_cases hk : i < k
  · exact h i r r' hk h1 h2
  · obtain rfl : i = k := by omega
    rw [ha] at h1
    rw [hb] at h2
    cases h1
    cases h2
    exact he

set_option maxRecDepth 100000 in
set_option maxHeartbeats 8000000 in
theorem img_same {F G : Nat → Prop} {w : World} {a b a' b' : Value} {x y : Img} (hx : ImgIn F w a b x) (hy : ImgIn G w a' b' y) (hF : ∀ g, F g → g < w.heap.size) (hG : ∀ g, G g → g < w.heap.size) :
    Calls Try.prog 18 #[.agg #[a, b], .agg #[a', b']] w (Tells (ImgEq x y) w) := by
  have HX := hid hx
  have HY := hid hy
  obtain ⟨h1, h2⟩ := hx
  obtain ⟨h3, h4⟩ := hy
  obtain ⟨ad1, cp1, rfl, hm1, hr1⟩ := h1
  obtain ⟨ad2, cp2, rfl, hm2, hr2⟩ := h2
  obtain ⟨ad3, cp3, rfl, hm3, hr3⟩ := h3
  obtain ⟨ad4, cp4, rfl, hm4, hr4⟩ := h4
  unfold maxLen at hm1 hm2 hm3 hm4
  have HR1 := hid hr1
  have HR2 := hid hr2
  have HR3 := hid hr3
  have HR4 := hid hr4
  have HFF := hid hF
  have HGG := hid hG
  clear hr1 hr2 hr3 hr4 hF hG
  go_enter Try.func18, Try.ntmps18
  have HB00 := hid (((Below.refl w.heap.size w).alloc (Nat.le_refl _) (.cells #[.slice ad1 x.rules.length cp1, .slice ad2 x.classes.length cp2] 25)).alloc (by simp) (.cells #[.slice ad3 y.rules.length cp3, .slice ad4 y.classes.length cp4] 25))
  by_cases hrl : x.rules.length = y.rules.length
  · have hrb : ((x.rules.length : Int) != (y.rules.length : Int)) = false := by simp [hrl]
    have HRL := hid hrl
    clear hrl
    by_cases hcl : x.classes.length = y.classes.length
    · have hcb : ((x.classes.length : Int) != (y.classes.length : Int)) = false := by simp [hcl]
      have HCL := hid hcl
      clear hcl
      go_wp2_with fail
      clear hrb hcb
      generalize hW0 : (w.alloc (.cells #[.slice ad1 x.rules.length cp1, .slice ad2 x.classes.length cp2] 25)).alloc (.cells #[.slice ad3 y.rules.length cp3, .slice ad4 y.classes.length cp4] 25) = W0 at *
      have HDB : Hid (W0.heap[w.heap.size]? = some (.cells #[.slice ad1 x.rules.length cp1, .slice ad2 x.classes.length cp2] 25 (0, 0))) := by rw [← hW0]; exact hid (heap_alloc2_old _ _ _)
      have HDC : Hid (W0.heap[w.heap.size + 1]? = some (.cells #[.slice ad3 y.rules.length cp3, .slice ad4 y.classes.length cp4] 25 (0, 0))) := by rw [← hW0]; exact hid (heap_alloc2_new _ _ _)
      have hz0 : W0.heap.size = w.heap.size + 2 := by rw [← hW0]; simp
      have hB0 : Below w.heap.size w W0 := HB00.out
      clear hW0 HB00
      go_loopw [5] (fun v wr => ∃ k : Nat, k ≤ x.rules.length ∧ v = .int .i64 k ∧ Below W0.heap.size W0 wr ∧ Hid (∀ (i : Nat) (r r' : Rule), i < k → x.rules[i]? = some r → y.rules[i]? = some r' → RuleEq r r')) (fun v _ => x.rules.length - (intOf v).toNat)
      case atStart => exact ⟨0, Nat.zero_le _, rfl, Below.refl _ _, hid (fun i r r' h => by omega)⟩
      case round =>
        obtain ⟨k, hk, rfl, hbr, hall⟩ := hrel
        have hBr : Below w.heap.size w wr := hB0.trans (hbr.mono (by omega))
        have hsz := hbr.size
        obtain ⟨d0, d1⟩ := twocells ((hbr.block w.heap.size (by omega)).trans HDB.out)
        obtain ⟨d2, d3⟩ := twocells ((hbr.block (w.heap.size + 1) (by omega)).trans HDC.out)
        by_cases hlt : k < x.rules.length
        · have hlt2 : k < y.rules.length := by have := HRL.out; omega
          have hlt2' : (k : Int) < (y.rules.length : Int) := by omega
          have HGX := hid (List.getElem?_eq_getElem hlt)
          have HGY := hid (List.getElem?_eq_getElem hlt2)
          obtain ⟨g, off, rfl, hFg, hcells⟩ := HR1.out (by intro e; rw [e] at hlt; simp at hlt)
          obtain ⟨cs, hcs, hc, hrule⟩ := hcells k hlt
          obtain ⟨g2, off2, rfl, hGg, hcells2⟩ := HR3.out (by intro e; rw [e] at hlt2; simp at hlt2)
          obtain ⟨cs2, hcs2, hc2, hrule2⟩ := hcells2 k hlt2
          have hc' : ∀ j c, cs[j]? = some c → wr.cell? ⟨g, off + k * 16 + j, none⟩ = some c := fun j c h => (cell_heap (hBr.block g (HFF.out g hFg))).trans (hc j c h)
          have hc2' : ∀ j c, cs2[j]? = some c → wr.cell? ⟨g2, off2 + k * 16 + j, none⟩ = some c := fun j c h => (cell_heap (hBr.block g2 (HGG.out g2 hGg))).trans (hc2 j c h)
          clear hc hc2 hcells hcells2 hcs hcs2
          generalize x.rules[k] = rx at *
          generalize y.rules[k] = ry at *
          obtain ⟨rof, rle, rri, rou, rm, rby⟩ := rx
          obtain ⟨tof, tle, tri, tou, tm, tby⟩ := ry
          obtain ⟨ax1, ap1, ay1, aq1, az1, as1, ax2, ap2, ay2, aq2, az2, as2, ax3, ap3, ay3, aq3, az3, as3, ax4, ap4, ay4, aq4, az4, as4, av4, at4, rfl⟩ := hrule.shape
          obtain ⟨bx1, bp1, by1, bq1, bz1, bs1, bx2, bp2, by2, bq2, bz2, bs2, bx3, bp3, by3, bq3, bz3, bs3, bx4, bp4, by4, bq4, bz4, bs4, bv4, bt4, rfl⟩ := hrule2.shape
          unfold ruleC at hc' hrule hc2' hrule2
          dsimp only at hc' hc2' hrule hrule2
          have k0 := hc' 0 _ rfl
          rw [Nat.add_zero] at k0
          have k1 := hc' 1 _ rfl
          have k2 := hc' 2 _ rfl
          have k3 := hc' 3 _ rfl
          have k4 := hc' 4 _ rfl
          have k5 := hc' 5 _ rfl
          have k6 := hc' 6 _ rfl
          have k7 := hc' 7 _ rfl
          have k8 := hc' 8 _ rfl
          have k9 := hc' 9 _ rfl
          have k10 := hc' 10 _ rfl
          have k11 := hc' 11 _ rfl
          have k12 := hc' 12 _ rfl
          have k13 := hc' 13 _ rfl
          have k14 := hc' 14 _ rfl
          have k15 := hc' 15 _ rfl
          have m0 := hc2' 0 _ rfl
          rw [Nat.add_zero] at m0
          have m1 := hc2' 1 _ rfl
          have m2 := hc2' 2 _ rfl
          have m3 := hc2' 3 _ rfl
          have m4 := hc2' 4 _ rfl
          have m5 := hc2' 5 _ rfl
          have m6 := hc2' 6 _ rfl
          have m7 := hc2' 7 _ rfl
          have m8 := hc2' 8 _ rfl
          have m9 := hc2' 9 _ rfl
          have m10 := hc2' 10 _ rfl
          have m11 := hc2' 11 _ rfl
          have m12 := hc2' 12 _ rfl
          have m13 := hc2' 13 _ rfl
          have m14 := hc2' 14 _ rfl
          have m15 := hc2' 15 _ rfl
          clear hc' hc2'
          go_upto_region 7 with fail
          have hg2l : g2 < wr.heap.size := by have := HGG.out g2 hGg; omega
          have dd2 := (cell_heap (w' := wr.alloc (.cells #[.slice ax1 rof.cls.length ap1, .slice ay1 rof.next.length aq1, .slice az1 rof.fin.length as1, .slice ax2 rle.cls.length ap2, .slice ay2 rle.next.length aq2, .slice az2 rle.fin.length as2, .slice ax3 rri.cls.length ap3, .slice ay3 rri.next.length aq3, .slice az3 rri.fin.length as3, .string ⟨rou.toArray⟩, .bool rm, .string ⟨rby.front.toArray⟩, .slice ax4 rby.next.length ap4, .slice ay4 rby.outs.length aq4, .slice az4 rby.fin.length as4, .slice av4 rby.tail.length at4] 52)) (alloc_old (by omega))).trans d2
          have mm0 := (cell_heap (w' := wr.alloc (.cells #[.slice ax1 rof.cls.length ap1, .slice ay1 rof.next.length aq1, .slice az1 rof.fin.length as1, .slice ax2 rle.cls.length ap2, .slice ay2 rle.next.length aq2, .slice az2 rle.fin.length as2, .slice ax3 rri.cls.length ap3, .slice ay3 rri.next.length aq3, .slice az3 rri.fin.length as3, .string ⟨rou.toArray⟩, .bool rm, .string ⟨rby.front.toArray⟩, .slice ax4 rby.next.length ap4, .slice ay4 rby.outs.length aq4, .slice az4 rby.fin.length as4, .slice av4 rby.tail.length at4] 52)) (alloc_old hg2l)).trans m0
          have mm1 := (cell_heap (w' := wr.alloc (.cells #[.slice ax1 rof.cls.length ap1, .slice ay1 rof.next.length aq1, .slice az1 rof.fin.length as1, .slice ax2 rle.cls.length ap2, .slice ay2 rle.next.length aq2, .slice az2 rle.fin.length as2, .slice ax3 rri.cls.length ap3, .slice ay3 rri.next.length aq3, .slice az3 rri.fin.length as3, .string ⟨rou.toArray⟩, .bool rm, .string ⟨rby.front.toArray⟩, .slice ax4 rby.next.length ap4, .slice ay4 rby.outs.length aq4, .slice az4 rby.fin.length as4, .slice av4 rby.tail.length at4] 52)) (alloc_old hg2l)).trans m1
          have mm2 := (cell_heap (w' := wr.alloc (.cells #[.slice ax1 rof.cls.length ap1, .slice ay1 rof.next.length aq1, .slice az1 rof.fin.length as1, .slice ax2 rle.cls.length ap2, .slice ay2 rle.next.length aq2, .slice az2 rle.fin.length as2, .slice ax3 rri.cls.length ap3, .slice ay3 rri.next.length aq3, .slice az3 rri.fin.length as3, .string ⟨rou.toArray⟩, .bool rm, .string ⟨rby.front.toArray⟩, .slice ax4 rby.next.length ap4, .slice ay4 rby.outs.length aq4, .slice az4 rby.fin.length as4, .slice av4 rby.tail.length at4] 52)) (alloc_old hg2l)).trans m2
          have mm3 := (cell_heap (w' := wr.alloc (.cells #[.slice ax1 rof.cls.length ap1, .slice ay1 rof.next.length aq1, .slice az1 rof.fin.length as1, .slice ax2 rle.cls.length ap2, .slice ay2 rle.next.length aq2, .slice az2 rle.fin.length as2, .slice ax3 rri.cls.length ap3, .slice ay3 rri.next.length aq3, .slice az3 rri.fin.length as3, .string ⟨rou.toArray⟩, .bool rm, .string ⟨rby.front.toArray⟩, .slice ax4 rby.next.length ap4, .slice ay4 rby.outs.length aq4, .slice az4 rby.fin.length as4, .slice av4 rby.tail.length at4] 52)) (alloc_old hg2l)).trans m3
          have mm4 := (cell_heap (w' := wr.alloc (.cells #[.slice ax1 rof.cls.length ap1, .slice ay1 rof.next.length aq1, .slice az1 rof.fin.length as1, .slice ax2 rle.cls.length ap2, .slice ay2 rle.next.length aq2, .slice az2 rle.fin.length as2, .slice ax3 rri.cls.length ap3, .slice ay3 rri.next.length aq3, .slice az3 rri.fin.length as3, .string ⟨rou.toArray⟩, .bool rm, .string ⟨rby.front.toArray⟩, .slice ax4 rby.next.length ap4, .slice ay4 rby.outs.length aq4, .slice az4 rby.fin.length as4, .slice av4 rby.tail.length at4] 52)) (alloc_old hg2l)).trans m4
          have mm5 := (cell_heap (w' := wr.alloc (.cells #[.slice ax1 rof.cls.length ap1, .slice ay1 rof.next.length aq1, .slice az1 rof.fin.length as1, .slice ax2 rle.cls.length ap2, .slice ay2 rle.next.length aq2, .slice az2 rle.fin.length as2, .slice ax3 rri.cls.length ap3, .slice ay3 rri.next.length aq3, .slice az3 rri.fin.length as3, .string ⟨rou.toArray⟩, .bool rm, .string ⟨rby.front.toArray⟩, .slice ax4 rby.next.length ap4, .slice ay4 rby.outs.length aq4, .slice az4 rby.fin.length as4, .slice av4 rby.tail.length at4] 52)) (alloc_old hg2l)).trans m5
          have mm6 := (cell_heap (w' := wr.alloc (.cells #[.slice ax1 rof.cls.length ap1, .slice ay1 rof.next.length aq1, .slice az1 rof.fin.length as1, .slice ax2 rle.cls.length ap2, .slice ay2 rle.next.length aq2, .slice az2 rle.fin.length as2, .slice ax3 rri.cls.length ap3, .slice ay3 rri.next.length aq3, .slice az3 rri.fin.length as3, .string ⟨rou.toArray⟩, .bool rm, .string ⟨rby.front.toArray⟩, .slice ax4 rby.next.length ap4, .slice ay4 rby.outs.length aq4, .slice az4 rby.fin.length as4, .slice av4 rby.tail.length at4] 52)) (alloc_old hg2l)).trans m6
          have mm7 := (cell_heap (w' := wr.alloc (.cells #[.slice ax1 rof.cls.length ap1, .slice ay1 rof.next.length aq1, .slice az1 rof.fin.length as1, .slice ax2 rle.cls.length ap2, .slice ay2 rle.next.length aq2, .slice az2 rle.fin.length as2, .slice ax3 rri.cls.length ap3, .slice ay3 rri.next.length aq3, .slice az3 rri.fin.length as3, .string ⟨rou.toArray⟩, .bool rm, .string ⟨rby.front.toArray⟩, .slice ax4 rby.next.length ap4, .slice ay4 rby.outs.length aq4, .slice az4 rby.fin.length as4, .slice av4 rby.tail.length at4] 52)) (alloc_old hg2l)).trans m7
          have mm8 := (cell_heap (w' := wr.alloc (.cells #[.slice ax1 rof.cls.length ap1, .slice ay1 rof.next.length aq1, .slice az1 rof.fin.length as1, .slice ax2 rle.cls.length ap2, .slice ay2 rle.next.length aq2, .slice az2 rle.fin.length as2, .slice ax3 rri.cls.length ap3, .slice ay3 rri.next.length aq3, .slice az3 rri.fin.length as3, .string ⟨rou.toArray⟩, .bool rm, .string ⟨rby.front.toArray⟩, .slice ax4 rby.next.length ap4, .slice ay4 rby.outs.length aq4, .slice az4 rby.fin.length as4, .slice av4 rby.tail.length at4] 52)) (alloc_old hg2l)).trans m8
          have mm9 := (cell_heap (w' := wr.alloc (.cells #[.slice ax1 rof.cls.length ap1, .slice ay1 rof.next.length aq1, .slice az1 rof.fin.length as1, .slice ax2 rle.cls.length ap2, .slice ay2 rle.next.length aq2, .slice az2 rle.fin.length as2, .slice ax3 rri.cls.length ap3, .slice ay3 rri.next.length aq3, .slice az3 rri.fin.length as3, .string ⟨rou.toArray⟩, .bool rm, .string ⟨rby.front.toArray⟩, .slice ax4 rby.next.length ap4, .slice ay4 rby.outs.length aq4, .slice az4 rby.fin.length as4, .slice av4 rby.tail.length at4] 52)) (alloc_old hg2l)).trans m9
          have mm10 := (cell_heap (w' := wr.alloc (.cells #[.slice ax1 rof.cls.length ap1, .slice ay1 rof.next.length aq1, .slice az1 rof.fin.length as1, .slice ax2 rle.cls.length ap2, .slice ay2 rle.next.length aq2, .slice az2 rle.fin.length as2, .slice ax3 rri.cls.length ap3, .slice ay3 rri.next.length aq3, .slice az3 rri.fin.length as3, .string ⟨rou.toArray⟩, .bool rm, .string ⟨rby.front.toArray⟩, .slice ax4 rby.next.length ap4, .slice ay4 rby.outs.length aq4, .slice az4 rby.fin.length as4, .slice av4 rby.tail.length at4] 52)) (alloc_old hg2l)).trans m10
          have mm11 := (cell_heap (w' := wr.alloc (.cells #[.slice ax1 rof.cls.length ap1, .slice ay1 rof.next.length aq1, .slice az1 rof.fin.length as1, .slice ax2 rle.cls.length ap2, .slice ay2 rle.next.length aq2, .slice az2 rle.fin.length as2, .slice ax3 rri.cls.length ap3, .slice ay3 rri.next.length aq3, .slice az3 rri.fin.length as3, .string ⟨rou.toArray⟩, .bool rm, .string ⟨rby.front.toArray⟩, .slice ax4 rby.next.length ap4, .slice ay4 rby.outs.length aq4, .slice az4 rby.fin.length as4, .slice av4 rby.tail.length at4] 52)) (alloc_old hg2l)).trans m11
          have mm12 := (cell_heap (w' := wr.alloc (.cells #[.slice ax1 rof.cls.length ap1, .slice ay1 rof.next.length aq1, .slice az1 rof.fin.length as1, .slice ax2 rle.cls.length ap2, .slice ay2 rle.next.length aq2, .slice az2 rle.fin.length as2, .slice ax3 rri.cls.length ap3, .slice ay3 rri.next.length aq3, .slice az3 rri.fin.length as3, .string ⟨rou.toArray⟩, .bool rm, .string ⟨rby.front.toArray⟩, .slice ax4 rby.next.length ap4, .slice ay4 rby.outs.length aq4, .slice az4 rby.fin.length as4, .slice av4 rby.tail.length at4] 52)) (alloc_old hg2l)).trans m12
          have mm13 := (cell_heap (w' := wr.alloc (.cells #[.slice ax1 rof.cls.length ap1, .slice ay1 rof.next.length aq1, .slice az1 rof.fin.length as1, .slice ax2 rle.cls.length ap2, .slice ay2 rle.next.length aq2, .slice az2 rle.fin.length as2, .slice ax3 rri.cls.length ap3, .slice ay3 rri.next.length aq3, .slice az3 rri.fin.length as3, .string ⟨rou.toArray⟩, .bool rm, .string ⟨rby.front.toArray⟩, .slice ax4 rby.next.length ap4, .slice ay4 rby.outs.length aq4, .slice az4 rby.fin.length as4, .slice av4 rby.tail.length at4] 52)) (alloc_old hg2l)).trans m13
          have mm14 := (cell_heap (w' := wr.alloc (.cells #[.slice ax1 rof.cls.length ap1, .slice ay1 rof.next.length aq1, .slice az1 rof.fin.length as1, .slice ax2 rle.cls.length ap2, .slice ay2 rle.next.length aq2, .slice az2 rle.fin.length as2, .slice ax3 rri.cls.length ap3, .slice ay3 rri.next.length aq3, .slice az3 rri.fin.length as3, .string ⟨rou.toArray⟩, .bool rm, .string ⟨rby.front.toArray⟩, .slice ax4 rby.next.length ap4, .slice ay4 rby.outs.length aq4, .slice az4 rby.fin.length as4, .slice av4 rby.tail.length at4] 52)) (alloc_old hg2l)).trans m14
          have mm15 := (cell_heap (w' := wr.alloc (.cells #[.slice ax1 rof.cls.length ap1, .slice ay1 rof.next.length aq1, .slice az1 rof.fin.length as1, .slice ax2 rle.cls.length ap2, .slice ay2 rle.next.length aq2, .slice az2 rle.fin.length as2, .slice ax3 rri.cls.length ap3, .slice ay3 rri.next.length aq3, .slice az3 rri.fin.length as3, .string ⟨rou.toArray⟩, .bool rm, .string ⟨rby.front.toArray⟩, .slice ax4 rby.next.length ap4, .slice ay4 rby.outs.length aq4, .slice az4 rby.fin.length as4, .slice av4 rby.tail.length at4] 52)) (alloc_old hg2l)).trans m15
          go_upto_region 8 with fail
          clear k0 k1 k2 k3 k4 k5 k6 k7 k8 k9 k10 k11 k12 k13 k14 k15 m0 m1 m2 m3 m4 m5 m6 m7 m8 m9 m10 m11 m12 m13 m14 m15 dd2 mm0 mm1 mm2 mm3 mm4 mm5 mm6 mm7 mm8 mm9 mm10 mm11 mm12 mm13 mm14 mm15
          have HRX := hid (fun (W : World) (hW : Below w.heap.size w W) => hrule.frame (w' := W) (fun _ h => h) (fun g hg _ => hW.block g (HFF.out g hg)))
          have HRY := hid (fun (W : World) (hW : Below w.heap.size w W) => hrule2.frame (w' := W) (fun _ h => h) (fun g hg _ => hW.block g (HGG.out g hg)))
          have hszB : w.heap.size ≤ wr.heap.size := by omega
          have hBq := (hBr.alloc hszB (.cells #[.slice ax1 rof.cls.length ap1, .slice ay1 rof.next.length aq1, .slice az1 rof.fin.length as1, .slice ax2 rle.cls.length ap2, .slice ay2 rle.next.length aq2, .slice az2 rle.fin.length as2, .slice ax3 rri.cls.length ap3, .slice ay3 rri.next.length aq3, .slice az3 rri.fin.length as3, .string ⟨rou.toArray⟩, .bool rm, .string ⟨rby.front.toArray⟩, .slice ax4 rby.next.length ap4, .slice ay4 rby.outs.length aq4, .slice az4 rby.fin.length as4, .slice av4 rby.tail.length at4] 52)).alloc (by rw [World.size_alloc]; omega) (.cells #[.slice bx1 tof.cls.length bp1, .slice by1 tof.next.length bq1, .slice bz1 tof.fin.length bs1, .slice bx2 tle.cls.length bp2, .slice by2 tle.next.length bq2, .slice bz2 tle.fin.length bs2, .slice bx3 tri.cls.length bp3, .slice by3 tri.next.length bq3, .slice bz3 tri.fin.length bs3, .string ⟨tou.toArray⟩, .bool tm, .string ⟨tby.front.toArray⟩, .slice bx4 tby.next.length bp4, .slice by4 tby.outs.length bq4, .slice bz4 tby.fin.length bs4, .slice bv4 tby.tail.length bt4] 52)
          have hBq0 := (hbr.alloc hsz (.cells #[.slice ax1 rof.cls.length ap1, .slice ay1 rof.next.length aq1, .slice az1 rof.fin.length as1, .slice ax2 rle.cls.length ap2, .slice ay2 rle.next.length aq2, .slice az2 rle.fin.length as2, .slice ax3 rri.cls.length ap3, .slice ay3 rri.next.length aq3, .slice az3 rri.fin.length as3, .string ⟨rou.toArray⟩, .bool rm, .string ⟨rby.front.toArray⟩, .slice ax4 rby.next.length ap4, .slice ay4 rby.outs.length aq4, .slice az4 rby.fin.length as4, .slice av4 rby.tail.length at4] 52)).alloc (by rw [World.size_alloc]; omega) (.cells #[.slice bx1 tof.cls.length bp1, .slice by1 tof.next.length bq1, .slice bz1 tof.fin.length bs1, .slice bx2 tle.cls.length bp2, .slice by2 tle.next.length bq2, .slice bz2 tle.fin.length bs2, .slice bx3 tri.cls.length bp3, .slice by3 tri.next.length bq3, .slice bz3 tri.fin.length bs3, .string ⟨tou.toArray⟩, .bool tm, .string ⟨tby.front.toArray⟩, .slice bx4 tby.next.length bp4, .slice by4 tby.outs.length bq4, .slice bz4 tby.fin.length bs4, .slice bv4 tby.tail.length bt4] 52)
          have hY1 := heap_alloc2_old wr (.cells #[.slice ax1 rof.cls.length ap1, .slice ay1 rof.next.length aq1, .slice az1 rof.fin.length as1, .slice ax2 rle.cls.length ap2, .slice ay2 rle.next.length aq2, .slice az2 rle.fin.length as2, .slice ax3 rri.cls.length ap3, .slice ay3 rri.next.length aq3, .slice az3 rri.fin.length as3, .string ⟨rou.toArray⟩, .bool rm, .string ⟨rby.front.toArray⟩, .slice ax4 rby.next.length ap4, .slice ay4 rby.outs.length aq4, .slice az4 rby.fin.length as4, .slice av4 rby.tail.length at4] 52) (.cells #[.slice bx1 tof.cls.length bp1, .slice by1 tof.next.length bq1, .slice bz1 tof.fin.length bs1, .slice bx2 tle.cls.length bp2, .slice by2 tle.next.length bq2, .slice bz2 tle.fin.length bs2, .slice bx3 tri.cls.length bp3, .slice by3 tri.next.length bq3, .slice bz3 tri.fin.length bs3, .string ⟨tou.toArray⟩, .bool tm, .string ⟨tby.front.toArray⟩, .slice bx4 tby.next.length bp4, .slice by4 tby.outs.length bq4, .slice bz4 tby.fin.length bs4, .slice bv4 tby.tail.length bt4] 52)
          have hY2 := heap_alloc2_new wr (.cells #[.slice ax1 rof.cls.length ap1, .slice ay1 rof.next.length aq1, .slice az1 rof.fin.length as1, .slice ax2 rle.cls.length ap2, .slice ay2 rle.next.length aq2, .slice az2 rle.fin.length as2, .slice ax3 rri.cls.length ap3, .slice ay3 rri.next.length aq3, .slice az3 rri.fin.length as3, .string ⟨rou.toArray⟩, .bool rm, .string ⟨rby.front.toArray⟩, .slice ax4 rby.next.length ap4, .slice ay4 rby.outs.length aq4, .slice az4 rby.fin.length as4, .slice av4 rby.tail.length at4] 52) (.cells #[.slice bx1 tof.cls.length bp1, .slice by1 tof.next.length bq1, .slice bz1 tof.fin.length bs1, .slice bx2 tle.cls.length bp2, .slice by2 tle.next.length bq2, .slice bz2 tle.fin.length bs2, .slice bx3 tri.cls.length bp3, .slice by3 tri.next.length bq3, .slice bz3 tri.fin.length bs3, .string ⟨tou.toArray⟩, .bool tm, .string ⟨tby.front.toArray⟩, .slice bx4 tby.next.length bp4, .slice by4 tby.outs.length bq4, .slice bz4 tby.fin.length bs4, .slice bv4 tby.tail.length bt4] 52)
          have hYs : ((wr.alloc (.cells #[.slice ax1 rof.cls.length ap1, .slice ay1 rof.next.length aq1, .slice az1 rof.fin.length as1, .slice ax2 rle.cls.length ap2, .slice ay2 rle.next.length aq2, .slice az2 rle.fin.length as2, .slice ax3 rri.cls.length ap3, .slice ay3 rri.next.length aq3, .slice az3 rri.fin.length as3, .string ⟨rou.toArray⟩, .bool rm, .string ⟨rby.front.toArray⟩, .slice ax4 rby.next.length ap4, .slice ay4 rby.outs.length aq4, .slice az4 rby.fin.length as4, .slice av4 rby.tail.length at4] 52)).alloc (.cells #[.slice bx1 tof.cls.length bp1, .slice by1 tof.next.length bq1, .slice bz1 tof.fin.length bs1, .slice bx2 tle.cls.length bp2, .slice by2 tle.next.length bq2, .slice bz2 tle.fin.length bs2, .slice bx3 tri.cls.length bp3, .slice by3 tri.next.length bq3, .slice bz3 tri.fin.length bs3, .string ⟨tou.toArray⟩, .bool tm, .string ⟨tby.front.toArray⟩, .slice bx4 tby.next.length bp4, .slice by4 tby.outs.length bq4, .slice bz4 tby.fin.length bs4, .slice bv4 tby.tail.length bt4] 52)).heap.size = wr.heap.size + 2 := by simp
          generalize (wr.alloc (.cells #[.slice ax1 rof.cls.length ap1, .slice ay1 rof.next.length aq1, .slice az1 rof.fin.length as1, .slice ax2 rle.cls.length ap2, .slice ay2 rle.next.length aq2, .slice az2 rle.fin.length as2, .slice ax3 rri.cls.length ap3, .slice ay3 rri.next.length aq3, .slice az3 rri.fin.length as3, .string ⟨rou.toArray⟩, .bool rm, .string ⟨rby.front.toArray⟩, .slice ax4 rby.next.length ap4, .slice ay4 rby.outs.length aq4, .slice az4 rby.fin.length as4, .slice av4 rby.tail.length at4] 52)).alloc (.cells #[.slice bx1 tof.cls.length bp1, .slice by1 tof.next.length bq1, .slice bz1 tof.fin.length bs1, .slice bx2 tle.cls.length bp2, .slice by2 tle.next.length bq2, .slice bz2 tle.fin.length bs2, .slice bx3 tri.cls.length bp3, .slice by3 tri.next.length bq3, .slice bz3 tri.fin.length bs3, .string ⟨tou.toArray⟩, .bool tm, .string ⟨tby.front.toArray⟩, .slice bx4 tby.next.length bp4, .slice by4 tby.outs.length bq4, .slice bz4 tby.fin.length bs4, .slice bv4 tby.tail.length bt4] 52) = W1 at *
          have CE := hid (show ∀ W : World, Below W1.heap.size W1 W → W.heap[wr.heap.size]? = some (.cells #[.slice ax1 rof.cls.length ap1, .slice ay1 rof.next.length aq1, .slice az1 rof.fin.length as1, .slice ax2 rle.cls.length ap2, .slice ay2 rle.next.length aq2, .slice az2 rle.fin.length as2, .slice ax3 rri.cls.length ap3, .slice ay3 rri.next.length aq3, .slice az3 rri.fin.length as3, .string ⟨rou.toArray⟩, .bool rm, .string ⟨rby.front.toArray⟩, .slice ax4 rby.next.length ap4, .slice ay4 rby.outs.length aq4, .slice az4 rby.fin.length as4, .slice av4 rby.tail.length at4] 52 (0, 0)) ∧ W.heap[wr.heap.size + 1]? = some (.cells #[.slice bx1 tof.cls.length bp1, .slice by1 tof.next.length bq1, .slice bz1 tof.fin.length bs1, .slice bx2 tle.cls.length bp2, .slice by2 tle.next.length bq2, .slice bz2 tle.fin.length bs2, .slice bx3 tri.cls.length bp3, .slice by3 tri.next.length bq3, .slice bz3 tri.fin.length bs3, .string ⟨tou.toArray⟩, .bool tm, .string ⟨tby.front.toArray⟩, .slice bx4 tby.next.length bp4, .slice by4 tby.outs.length bq4, .slice bz4 tby.fin.length bs4, .slice bv4 tby.tail.length bt4] 52 (0, 0)) from fun W hW => ⟨(hW.block _ (by omega)).trans hY1, (hW.block _ (by omega)).trans hY2⟩)
          have HNEQ := hid (show ¬ RuleEq ⟨rof, rle, rri, rou, rm, rby⟩ ⟨tof, tle, tri, tou, tm, tby⟩ → ¬ ImgEq x y from fun h e => h (e.rules k _ _ HGX.out HGY.out))
          clear hY1 hY2 hrule hrule2 d0 d1 d2 d3
          have hW1w : Below w.heap.size w W1 := hBq
          obtain ⟨e0, e1, e2, e3, e4, e5, e6, e7, e8, e9, e10, e11, e12, e13, e14, e15⟩ := rcells (CE.out W1 (Below.refl _ _)).1
          obtain ⟨f0, f1, f2, f3, f4, f5, f6, f7, f8, f9, f10, f11, f12, f13, f14, f15⟩ := rcells (CE.out W1 (Below.refl _ _)).2
          by_cases hm : rm = tm
          · subst hm
            have hmb : (rm != rm) = false := by simp
            have hmb2 : (rm == rm) = true := by simp
            by_cases ho : rou = tou
            · subst ho
              have hob : (rou != rou) = false := by simp
              have hob2 : (rou == rou) = true := by simp
              go_wp2_with fail
              refine (seq_same (HRX.out W1 hW1w).parts.2.2.2 (HRY.out W1 hW1w).parts.2.2.2 (fun g hg => Nat.lt_of_lt_of_le (HFF.out g hg) hW1w.size) (fun g hg => Nat.lt_of_lt_of_le (HGG.out g hg) hW1w.size)).mono ?_
              rintro e w2 ⟨⟨m2, rfl, hm2⟩, hb2⟩
              have hW2 := Below.last hW1w hb2 hW1w.size
              clear e0 e1 e2 e3 e4 e5 e6 e7 e8 e9 e10 e11 e12 e13 e14 e15 f0 f1 f2 f3 f4 f5 f6 f7 f8 f9 f10 f11 f12 f13 f14 f15
              obtain ⟨e0, e1, e2, e3, e4, e5, e6, e7, e8, e9, e10, e11, e12, e13, e14, e15⟩ := rcells (CE.out w2 hb2).1
              obtain ⟨f0, f1, f2, f3, f4, f5, f6, f7, f8, f9, f10, f11, f12, f13, f14, f15⟩ := rcells (CE.out w2 hb2).2
              cases m2
              · have HM := hid (HNEQ.out (fun e => absurd (hm2.2 e.by_) (by decide)))
                go_wp2
                go_ret
                exact tells_no HM.out hW2
              · have HBY := hid (hm2.1 rfl)
                clear hm2
                go_wp2_with fail
                refine (dfa_same (HRX.out w2 hW2).parts.1 (HRY.out w2 hW2).parts.1 (fun g hg => Nat.lt_of_lt_of_le (HFF.out g hg) hW2.size) (fun g hg => Nat.lt_of_lt_of_le (HGG.out g hg) hW2.size)).mono ?_
                rintro e w3 ⟨⟨m3, rfl, hm3⟩, hc3⟩
                have hb3 := hb2.trans (hc3.mono hb2.size)
                have hW3 := Below.last hW1w hb3 hW1w.size
                clear e0 e1 e2 e3 e4 e5 e6 e7 e8 e9 e10 e11 e12 e13 e14 e15 f0 f1 f2 f3 f4 f5 f6 f7 f8 f9 f10 f11 f12 f13 f14 f15
                obtain ⟨e0, e1, e2, e3, e4, e5, e6, e7, e8, e9, e10, e11, e12, e13, e14, e15⟩ := rcells (CE.out w3 hb3).1
                obtain ⟨f0, f1, f2, f3, f4, f5, f6, f7, f8, f9, f10, f11, f12, f13, f14, f15⟩ := rcells (CE.out w3 hb3).2
                cases m3
                · have HM := hid (HNEQ.out (fun e => absurd (hm3.2 e.of) (by decide)))
                  go_wp2
                  go_ret
                  exact tells_no HM.out hW3
                · have HOF := hid (hm3.1 rfl)
                  clear hm3
                  go_wp2_with fail
                  refine (dfa_same (HRX.out w3 hW3).parts.2.1 (HRY.out w3 hW3).parts.2.1 (fun g hg => Nat.lt_of_lt_of_le (HFF.out g hg) hW3.size) (fun g hg => Nat.lt_of_lt_of_le (HGG.out g hg) hW3.size)).mono ?_
                  rintro e w4 ⟨⟨m4, rfl, hm4⟩, hc4⟩
                  have hb4 := hb3.trans (hc4.mono hb3.size)
                  have hW4 := Below.last hW1w hb4 hW1w.size
                  clear e0 e1 e2 e3 e4 e5 e6 e7 e8 e9 e10 e11 e12 e13 e14 e15 f0 f1 f2 f3 f4 f5 f6 f7 f8 f9 f10 f11 f12 f13 f14 f15
                  obtain ⟨e0, e1, e2, e3, e4, e5, e6, e7, e8, e9, e10, e11, e12, e13, e14, e15⟩ := rcells (CE.out w4 hb4).1
                  obtain ⟨f0, f1, f2, f3, f4, f5, f6, f7, f8, f9, f10, f11, f12, f13, f14, f15⟩ := rcells (CE.out w4 hb4).2
                  cases m4
                  · have HM := hid (HNEQ.out (fun e => absurd (hm4.2 e.left) (by decide)))
                    go_wp2
                    go_ret
                    exact tells_no HM.out hW4
                  · have HLE := hid (hm4.1 rfl)
                    clear hm4
                    go_wp2_with fail
                    refine (dfa_same (HRX.out w4 hW4).parts.2.2.1 (HRY.out w4 hW4).parts.2.2.1 (fun g hg => Nat.lt_of_lt_of_le (HFF.out g hg) hW4.size) (fun g hg => Nat.lt_of_lt_of_le (HGG.out g hg) hW4.size)).mono ?_
                    rintro e w5 ⟨⟨m5, rfl, hm5⟩, hc5⟩
                    have hb5 := hb4.trans (hc5.mono hb4.size)
                    have hW5 := Below.last hW1w hb5 hW1w.size
                    clear e0 e1 e2 e3 e4 e5 e6 e7 e8 e9 e10 e11 e12 e13 e14 e15 f0 f1 f2 f3 f4 f5 f6 f7 f8 f9 f10 f11 f12 f13 f14 f15
                    obtain ⟨e0, e1, e2, e3, e4, e5, e6, e7, e8, e9, e10, e11, e12, e13, e14, e15⟩ := rcells (CE.out w5 hb5).1
                    obtain ⟨f0, f1, f2, f3, f4, f5, f6, f7, f8, f9, f10, f11, f12, f13, f14, f15⟩ := rcells (CE.out w5 hb5).2
                    cases m5
                    · have HM := hid (HNEQ.out (fun e => absurd (hm5.2 e.right) (by decide)))
                      go_wp2
                      go_ret
                      exact tells_no HM.out hW5
                    · have HRI := hid (hm5.1 rfl)
                      clear hm5
                      have HNX := hid (rule_snoc hall.out HGX.out HGY.out ⟨rfl, rfl, HBY.out, HOF.out, HLE.out, HRI.out⟩)
                      have hbn := hBq0.trans (hb5.mono hBq0.size)
                      clear e0 e1 e2 e3 e4 e5 e6 e7 e8 e9 e10 e11 e12 e13 e14 e15 f0 f1 f2 f3 f4 f5 f6 f7 f8 f9 f10 f11 f12 f13 f14 f15
                      go_wp2
                      go_roundw
                      case rel => exact ⟨k + 1, by omega, by go_num, hbn, HNX⟩
                      case measure => simp [intOf]; omega
            · have hob : (rou != tou) = true := by simp [ho]
              have hob2 : (rou == tou) = false := beq_eq_false_iff_ne.2 ho
              have HM := hid (HNEQ.out (fun e => ho e.out))
              clear ho
              go_wp2
              go_ret
              exact tells_no HM.out hW1w
          · have hmb : (rm != tm) = true := by simp [hm]
            have hmb2 : (rm == tm) = false := beq_eq_false_iff_ne.2 hm
            have HM := hid (HNEQ.out (fun e => hm e.mapped))
            clear hm
            go_wp2
            go_ret
            exact tells_no HM.out hW1w
        · have HRULES := hid (show ∀ (i : Nat) (r r' : Rule), x.rules[i]? = some r → y.rules[i]? = some r' → RuleEq r r' from fun i r r' h1 h2 => hall.out i r r' (by have := (List.getElem?_eq_some_iff.1 h1).1; omega) h1 h2)
          clear hall
          go_wp2_with fail
          obtain ⟨wo, rfl⟩ : ∃ wo : World, wo = wr := ⟨_, rfl⟩
          go_loopw [8] (fun v wr => ∃ j : Nat, j ≤ x.classes.length ∧ v = .int .i64 j ∧ Below W0.heap.size W0 wr ∧ Hid (x.classes.take j = y.classes.take j)) (fun v _ => x.classes.length - (intOf v).toNat)
          case atStart => exact ⟨0, Nat.zero_le _, rfl, hbr, hid (by simp)⟩
          case round =>
            obtain ⟨j, hj, rfl, hbq, htk⟩ := hrel
            have hBq : Below w.heap.size w wr := hB0.trans (hbq.mono (by omega))
            have hsq := hbq.size
            obtain ⟨d0, d1⟩ := twocells ((hbq.block w.heap.size (by omega)).trans HDB.out)
            obtain ⟨d2, d3⟩ := twocells ((hbq.block (w.heap.size + 1) (by omega)).trans HDC.out)
            by_cases hjl : j < x.classes.length
            · have hjl2 : j < y.classes.length := by have := HCL.out; omega
              have hjl2' : (j : Int) < (y.classes.length : Int) := by omega
              have HT := hid (show x.classes[j] = y.classes[j] → x.classes.take (j + 1) = y.classes.take (j + 1) from fun e => by rw [take_succ' _ _ hjl, take_succ' _ _ hjl2, htk.out, e])
              have HNE := hid (show ¬ x.classes[j] = y.classes[j] → ¬ ImgEq x y from fun h e => h (by have h1 := congrArg (fun l => l[j]?) e.classes; simp only [List.getElem?_eq_getElem hjl, List.getElem?_eq_getElem hjl2] at h1; exact Option.some.inj h1))
              obtain ⟨g, off, rfl, hFg, hcells⟩ := HR2.out (by intro e; rw [e] at hjl; simp at hjl)
              obtain ⟨cs, hcs, hc, hcl⟩ := hcells j hjl
              obtain ⟨g2, off2, rfl, hGg, hcells2⟩ := HR4.out (by intro e; rw [e] at hjl2; simp at hjl2)
              obtain ⟨cs2, hcs2, hc2, hcl2⟩ := hcells2 j hjl2
              clear hcells hcells2
              generalize x.classes[j] = cx at *
              generalize y.classes[j] = cy at *
              obtain ⟨cn, cd⟩ := cx
              obtain ⟨dn, dd⟩ := cy
              obtain ⟨ax, ap, ay, aq, az, ar, rfl, hdx⟩ := hcl
              obtain ⟨bx, bp, by1, bq, bz, bs, rfl, hdy⟩ := hcl2
              dsimp only at hdx hdy hc hc2
              have HDX := hid (fun (W : World) (hW : Below wr.heap.size wr W) => hdx.frame (w' := W) (fun _ h => h) (fun q hq _ => (hBq.trans (hW.mono hBq.size)).block q (HFF.out q hq)))
              have HDY := hid (fun (W : World) (hW : Below wr.heap.size wr W) => hdy.frame (w' := W) (fun _ h => h) (fun q hq _ => (hBq.trans (hW.mono hBq.size)).block q (HGG.out q hq)))
              have FACTS := hid (show ∀ W : World, Below wr.heap.size wr W → (fun W => W.cell? ⟨w.heap.size, 1, none⟩ = some (.slice (some ⟨g, off, none⟩) x.classes.length cp2) ∧ W.cell? ⟨w.heap.size + 1, 1, none⟩ = some (.slice (some ⟨g2, off2, none⟩) y.classes.length cp4) ∧ W.cell? ⟨g, off + j * 4, none⟩ = some (.string ⟨cn.toArray⟩) ∧ W.cell? ⟨g2, off2 + j * 4, none⟩ = some (.string ⟨dn.toArray⟩) ∧ W.cell? ⟨g, off + j * 4 + 1, none⟩ = some (.slice ax cd.cls.length ap) ∧ W.cell? ⟨g, off + j * 4 + 2, none⟩ = some (.slice ay cd.next.length aq) ∧ W.cell? ⟨g, off + j * 4 + 3, none⟩ = some (.slice az cd.fin.length ar) ∧ W.cell? ⟨g2, off2 + j * 4 + 1, none⟩ = some (.slice bx dd.cls.length bp) ∧ W.cell? ⟨g2, off2 + j * 4 + 2, none⟩ = some (.slice by1 dd.next.length bq) ∧ W.cell? ⟨g2, off2 + j * 4 + 3, none⟩ = some (.slice bz dd.fin.length bs)) W from fun W hW => by
                have hgW := (hBq.trans (hW.mono hBq.size)).block g (HFF.out g hFg)
                have hgW2 := (hBq.trans (hW.mono hBq.size)).block g2 (HGG.out g2 hGg)
                refine ⟨(hW.cell (p := ⟨w.heap.size, 1, none⟩) (by show w.heap.size < _; omega)).trans d1, (hW.cell (p := ⟨w.heap.size + 1, 1, none⟩) (by show w.heap.size + 1 < _; omega)).trans d3, ?_, ?_, (cell_heap hgW).trans (hc 1 _ rfl), (cell_heap hgW).trans (hc 2 _ rfl), (cell_heap hgW).trans (hc 3 _ rfl), (cell_heap hgW2).trans (hc2 1 _ rfl), (cell_heap hgW2).trans (hc2 2 _ rfl), (cell_heap hgW2).trans (hc2 3 _ rfl)⟩
                · have h := hc 0 _ rfl
                  rw [Nat.add_zero] at h
                  exact (cell_heap hgW).trans h
                · have h := hc2 0 _ rfl
                  rw [Nat.add_zero] at h
                  exact (cell_heap hgW2).trans h)
              clear hc hc2 hdx hdy
              by_cases hnm : cn = dn
              · subst hnm
                have hnb : (cn != cn) = false := by simp
                have hnb2 : (cn == cn) = true := by simp
                by_cases hdf : cd = dd
                · have HN := hid (HT.out (by rw [hdf]))
                  have HBV := hid (show ∀ m : Bool, (m = true ↔ cd = dd) → m = true from fun m h => h.2 hdf)
                  clear hdf
                  go_upto_region 15 with fail
                  go_region_held3 (fun W => W.cell? ⟨w.heap.size, 1, none⟩ = some (.slice (some ⟨g, off, none⟩) x.classes.length cp2) ∧ W.cell? ⟨w.heap.size + 1, 1, none⟩ = some (.slice (some ⟨g2, off2, none⟩) y.classes.length cp4) ∧ W.cell? ⟨g, off + j * 4, none⟩ = some (.string ⟨cn.toArray⟩) ∧ W.cell? ⟨g2, off2 + j * 4, none⟩ = some (.string ⟨cn.toArray⟩) ∧ W.cell? ⟨g, off + j * 4 + 1, none⟩ = some (.slice ax cd.cls.length ap) ∧ W.cell? ⟨g, off + j * 4 + 2, none⟩ = some (.slice ay cd.next.length aq) ∧ W.cell? ⟨g, off + j * 4 + 3, none⟩ = some (.slice az cd.fin.length ar) ∧ W.cell? ⟨g2, off2 + j * 4 + 1, none⟩ = some (.slice bx dd.cls.length bp) ∧ W.cell? ⟨g2, off2 + j * 4 + 2, none⟩ = some (.slice by1 dd.next.length bq) ∧ W.cell? ⟨g2, off2 + j * 4 + 3, none⟩ = some (.slice bz dd.fin.length bs)) (first | exact FACTS.out wr (Below.refl _ _) | exact FACTS.out _ (Below.refl _ _).drew | exact FACTS.out _ hq5) (first | (go_at_call 34; refine (dfa_same (HDX.out _ (Below.refl _ _).drew) (HDY.out _ (Below.refl _ _).drew) (fun g hg => Nat.lt_of_lt_of_le (HFF.out g hg) hBq.size) (fun g hg => Nat.lt_of_lt_of_le (HGG.out g hg) hBq.size)).mono ?_; rintro e w5 ⟨⟨m5, rfl, hm5⟩, hb5⟩; obtain rfl : m5 = true := HBV.out m5 hm5; clear hm5; have hq5 : Below wr.heap.size wr w5 := (Below.refl wr.heap.size wr).drew.trans hb5))
                  all_goals
                    go_wp2
                    go_roundw
                    case rel => exact ⟨j + 1, by omega, by go_num, hbq.trans (hq5.mono hsq), HN⟩
                    case measure => simp [intOf]; omega
                · have HN := hid (HNE.out (fun e => hdf (by cases e; rfl)))
                  have HBV := hid (show ∀ m : Bool, (m = true ↔ cd = dd) → m = false from fun m h => by
                    cases m with
                    | false => rfl
                    | true => exact absurd (h.1 rfl) hdf)
                  clear hdf
                  go_upto_region 15 with fail
                  go_region_held3 (fun W => W.cell? ⟨w.heap.size, 1, none⟩ = some (.slice (some ⟨g, off, none⟩) x.classes.length cp2) ∧ W.cell? ⟨w.heap.size + 1, 1, none⟩ = some (.slice (some ⟨g2, off2, none⟩) y.classes.length cp4) ∧ W.cell? ⟨g, off + j * 4, none⟩ = some (.string ⟨cn.toArray⟩) ∧ W.cell? ⟨g2, off2 + j * 4, none⟩ = some (.string ⟨cn.toArray⟩) ∧ W.cell? ⟨g, off + j * 4 + 1, none⟩ = some (.slice ax cd.cls.length ap) ∧ W.cell? ⟨g, off + j * 4 + 2, none⟩ = some (.slice ay cd.next.length aq) ∧ W.cell? ⟨g, off + j * 4 + 3, none⟩ = some (.slice az cd.fin.length ar) ∧ W.cell? ⟨g2, off2 + j * 4 + 1, none⟩ = some (.slice bx dd.cls.length bp) ∧ W.cell? ⟨g2, off2 + j * 4 + 2, none⟩ = some (.slice by1 dd.next.length bq) ∧ W.cell? ⟨g2, off2 + j * 4 + 3, none⟩ = some (.slice bz dd.fin.length bs)) (first | exact FACTS.out wr (Below.refl _ _) | exact FACTS.out _ (Below.refl _ _).drew | exact FACTS.out _ hq5) (first | (go_at_call 34; refine (dfa_same (HDX.out _ (Below.refl _ _).drew) (HDY.out _ (Below.refl _ _).drew) (fun g hg => Nat.lt_of_lt_of_le (HFF.out g hg) hBq.size) (fun g hg => Nat.lt_of_lt_of_le (HGG.out g hg) hBq.size)).mono ?_; rintro e w5 ⟨⟨m5, rfl, hm5⟩, hb5⟩; obtain rfl : m5 = false := HBV.out m5 hm5; clear hm5; have hq5 : Below wr.heap.size wr w5 := (Below.refl wr.heap.size wr).drew.trans hb5))
                  all_goals
                    go_wp2
                    go_ret
                    exact tells_no HN.out (hBq.trans (hq5.mono hBq.size))
              · have hnb : (cn != dn) = true := by simp [hnm]
                have hnb2 : (cn == dn) = false := beq_eq_false_iff_ne.2 hnm
                have HN := hid (HNE.out (fun e => hnm (by cases e; rfl)))
                clear hnm
                obtain ⟨s0, s1, s2, s3, s4, s5, s6, s7, s8, s9⟩ := FACTS.out wr (Below.refl _ _)
                go_upto_region 15 with fail
                go_quiet (fail)
                go_wp2
                go_ret
                exact tells_no HN.out (below_drewN hBq _)
            · have HN := hid (show ImgEq x y from ⟨HRL.out, HCL.out, HRULES.out, by
                have h := htk.out
                rw [List.take_of_length_le (by omega), List.take_of_length_le (by have := HCL.out; omega)] at h
                exact h⟩)
              go_wp2
              go_ret
              exact tells_yes HN.out hBq
    · have hcb : ((x.classes.length : Int) != (y.classes.length : Int)) = true := by simp; omega
      have HNO := hid hcl
      clear hcl
      go_wp2
      go_ret
      exact tells_no (fun e => HNO.out e.clen) HB00.out
  · have hrb : ((x.rules.length : Int) != (y.rules.length : Int)) = true := by simp; omega
    have HNO := hid hrl
    clear hrl
    go_wp2
    go_ret
    exact tells_no (fun e => HNO.out e.rlen) HB00.out
end Go.Proofs.Ytdokeelodcckoaa.Im
