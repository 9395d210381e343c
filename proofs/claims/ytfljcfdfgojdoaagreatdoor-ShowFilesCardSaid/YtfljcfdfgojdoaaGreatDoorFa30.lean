/-
  The reference's sets: words with a bit added; Make gives just the set that is asked for; Has.
  The reference's sets: Bytes, Span(0, 255), By(s, s, 3).
-/
import Derived.Test.YtfljcfdfgojdoaaGreatDoorFa29
import Derived.Test.YtfljcfdfgojdoaaGreatDoorFa13
import Derived.Deep.RegionWith
import Derived.Test.YtfljcfdfgojdoaaGreatDoorFa12
import Derived.Test.YtfljcfdfgojdoaaGreatDoorFa14
namespace Go.Proofs.YtfljcfdfgojdoaaGreatDoor.Sh.Rf
open Go.RowKit Go.Lib Go.Proofs.YtfljcfdfgojdoaaGreatDoor Go.Proofs.YtfljcfdfgojdoaaGreatDoor.Sh

theorem add_bit (w m j : Nat) (h : w / 2 ^ m % 2 = 0) : (w + 2 ^ m) / 2 ^ j % 2 = if j = m then 1 else w / 2 ^ j % 2 := by
  have hp : 0 < 2 ^ m := Nat.pow_pos (by decide)
  have e0 : (w + 2 ^ m) / 2 ^ m = w / 2 ^ m + 1 := Nat.add_div_right w hp
  rcases Nat.lt_trichotomy j m with hl | rfl | hl
  · rw [if_neg (by omega)]
    obtain ⟨c, rfl⟩ : ∃ c, m = j + 1 + c := ⟨m - j - 1, by omega⟩
    have hj : 0 < 2 ^ j := Nat.pow_pos (by decide)
    have e1 : 2 ^ (j + 1 + c) = 2 ^ j * (2 * 2 ^ c) := by rw [Nat.pow_add, Nat.pow_succ, Nat.mul_assoc]
    rw [e1, Nat.add_mul_div_left _ _ hj]
    omega
  · rw [if_pos rfl, e0]; omega
  · rw [if_neg (by omega)]
    obtain ⟨c, rfl⟩ : ∃ c, j = m + 1 + c := ⟨j - m - 1, by omega⟩
    have e1 : 2 ^ (m + 1 + c) = 2 ^ m * 2 * 2 ^ c := by rw [Nat.pow_add, Nat.pow_succ]
    rw [e1, ← Nat.div_div_eq_div_mul, ← Nat.div_div_eq_div_mul, ← Nat.div_div_eq_div_mul, ← Nat.div_div_eq_div_mul, e0]
    congr 2
    omega
theorem add_lt {w m : Nat} (h : w / 2 ^ m % 2 = 0) (hm : m < 64) (hw : w < 2 ^ 64) : w + 2 ^ m < 2 ^ 64 := by
  have hp : 0 < 2 ^ m := Nat.pow_pos (by decide)
  obtain ⟨c, hc⟩ : ∃ c, 64 = m + 1 + c := ⟨63 - m, by omega⟩
  have e1 : 2 ^ 64 = 2 ^ m * (2 * 2 ^ c) := by rw [hc, Nat.pow_add, Nat.pow_succ, Nat.mul_assoc]
  have h1 : w / 2 ^ m < 2 * 2 ^ c := by
    rw [Nat.div_lt_iff_lt_mul hp, Nat.mul_comm, ← e1]; exact hw
  have h2 : w / 2 ^ m + 1 < 2 * 2 ^ c := by omega
  have h3 : (w + 2 ^ m) / 2 ^ m < 2 * 2 ^ c := by rw [Nat.add_div_right w hp]; exact h2
  rw [Nat.div_lt_iff_lt_mul hp, Nat.mul_comm, ← e1] at h3
  exact h3
theorem pwR_eq : ∀ (m : Nat), m < 64 → pwR m = ((2 ^ m : Nat) : Int)
  | 0, _ => rfl
  | m + 1, h => by
    have h1 : 2 ^ (m + 1) < 2 ^ 64 := Nat.pow_lt_pow_right (by decide) h
    rw [pwR, pwR_eq m (by omega), show (2 : Int) * ((2 ^ m : Nat) : Int) = ((2 ^ (m + 1) : Nat) : Int) by rw [Nat.pow_succ]; omega]
    exact wrap_u64 _ (by omega)
theorem word_add {x : Int} (hx : wOk x) {m : Nat} (hm : m < 64) (h : decide (x / 2 ^ m % 2 = 1) = false) :
    wOk (IntKind.u64.wrap (x + pwR m)) ∧ ∀ j, decide (IntKind.u64.wrap (x + pwR m) / 2 ^ j % 2 = 1) = (decide (x / 2 ^ j % 2 = 1) || decide (j = m)) := by
  obtain ⟨w, rfl⟩ := Int.eq_ofNat_of_zero_le hx.1
  have hw : w < 2 ^ 64 := by have := hx.2; omega
  have cast : ∀ (y j : Nat), ((y : Int) / 2 ^ j % 2 = 1) = (y / 2 ^ j % 2 = 1) := fun y j => by
    have e : (y : Int) / 2 ^ j % 2 = ((y / 2 ^ j % 2 : Nat) : Int) := by norm_cast
    rw [e]
    exact propext ⟨fun h => by omega, fun h => by omega⟩
  have h0 : w / 2 ^ m % 2 = 0 := by
    have h1 := of_decide_eq_false h
    rw [cast] at h1
    omega
  have hlt := add_lt h0 hm hw
  have e : IntKind.u64.wrap ((w : Int) + pwR m) = ((w + 2 ^ m : Nat) : Int) := by
    rw [pwR_eq m hm, ← Int.natCast_add]
    exact wrap_u64 _ (by omega)
  have hab := fun j => add_bit w m j h0
  generalize w + 2 ^ m = N at *
  rw [e]
  refine ⟨⟨by omega, by omega⟩, fun j => ?_⟩
  rw [← Bool.decide_or]
  refine decide_eq_decide.2 ?_
  rw [cast, cast, hab j]
  by_cases hj : j = m
  · simp [hj]
  · simp [hj]
/-- a set under construction: just the bytes below k that are asked for -/
structure MakeAt (l : List Bool) (k : Nat) (s : Se) : Prop where
  ok : SeOk s
  has : ∀ x, x < 256 → hasS s x = (decide (x < k) && l.getD x false)
theorem MakeAt.start (l : List Bool) : MakeAt l 0 Se.none := ⟨SeOk.none, fun x _ => by rw [has_none]; simp⟩
theorem MakeAt.no {l : List Bool} {k : Nat} {s : Se} (h : MakeAt l k s) (hb : l.getD k false = false) : MakeAt l (k + 1) s :=
  ⟨h.ok, fun x hx => by
    rw [h.has x hx]
    by_cases e : x = k
    · subst e; rw [hb]; simp
    · congr 1
      exact decide_eq_decide.2 (by omega)⟩
def addS (s : Se) (k : Nat) : Se :=
  if k / 64 = 0 then ⟨IntKind.u64.wrap (s.a + pwR (k % 64)), s.b, s.c, s.d⟩
  else if k / 64 = 1 then ⟨s.a, IntKind.u64.wrap (s.b + pwR (k % 64)), s.c, s.d⟩
  else if k / 64 = 2 then ⟨s.a, s.b, IntKind.u64.wrap (s.c + pwR (k % 64)), s.d⟩
  else ⟨s.a, s.b, s.c, IntKind.u64.wrap (s.d + pwR (k % 64))⟩
theorem addS_has {s : Se} (hs : SeOk s) {k : Nat} (hk : k < 256) (h : hasS s k = false) : SeOk (addS s k) ∧ ∀ x, x < 256 → hasS (addS s k) x = (hasS s x || decide (x = k)) := by
  have hm : k % 64 < 64 := Nat.mod_lt _ (by decide)
  have hcase : k / 64 = 0 ∨ k / 64 = 1 ∨ k / 64 = 2 ∨ k / 64 = 3 := by omega
  unfold hasS at h
  have fin : ∀ x : Nat, x / 64 ≠ k / 64 → (x = k) = False := fun x hx => propext ⟨fun e => hx (by rw [e]), False.elim⟩
  have eqm : ∀ x : Nat, x / 64 = k / 64 → (x % 64 = k % 64) = (x = k) := fun x hx => propext ⟨fun e => by omega, fun e => by rw [e]⟩
  rcases hcase with hq | hq | hq | hq
  · rw [hq] at h
    obtain ⟨h1, h2⟩ := word_add hs.a hm h
    have ea : addS s k = ⟨IntKind.u64.wrap (s.a + pwR (k % 64)), s.b, s.c, s.d⟩ := by unfold addS; rw [if_pos hq]
    rw [ea]
    refine ⟨⟨h1, hs.b, hs.c, hs.d⟩, fun x hx => ?_⟩
    unfold hasS wordS
    by_cases hx0 : x / 64 = 0
    · rw [if_pos hx0, if_pos hx0, h2, ← decide_eq_decide.2 (Iff.of_eq (eqm x (by omega)))]
    · rw [if_neg hx0, if_neg hx0, (decide_eq_false (fun e => by subst e; exact hx0 hq) : decide (x = k) = false), Bool.or_false]
  · rw [hq] at h
    obtain ⟨h1, h2⟩ := word_add hs.b hm h
    have ea : addS s k = ⟨s.a, IntKind.u64.wrap (s.b + pwR (k % 64)), s.c, s.d⟩ := by unfold addS; rw [if_neg (by omega), if_pos hq]
    rw [ea]
    refine ⟨⟨hs.a, h1, hs.c, hs.d⟩, fun x hx => ?_⟩
    unfold hasS wordS
    by_cases hx0 : x / 64 = 1
    · rw [if_neg (by omega), if_pos hx0, if_neg (by omega), if_pos hx0, h2, ← decide_eq_decide.2 (Iff.of_eq (eqm x (by omega)))]
    · rw [(decide_eq_false (fun e => by subst e; exact hx0 hq) : decide (x = k) = false), Bool.or_false, if_neg hx0, if_neg hx0]
  · rw [hq] at h
    obtain ⟨h1, h2⟩ := word_add hs.c hm h
    have ea : addS s k = ⟨s.a, s.b, IntKind.u64.wrap (s.c + pwR (k % 64)), s.d⟩ := by unfold addS; rw [if_neg (by omega), if_neg (by omega), if_pos hq]
    rw [ea]
    refine ⟨⟨hs.a, hs.b, h1, hs.d⟩, fun x hx => ?_⟩
    unfold hasS wordS
    by_cases hx0 : x / 64 = 2
    · rw [if_neg (by omega), if_neg (by omega), if_pos hx0, if_neg (by omega), if_neg (by omega), if_pos hx0, h2, ← decide_eq_decide.2 (Iff.of_eq (eqm x (by omega)))]
    · rw [(decide_eq_false (fun e => by subst e; exact hx0 hq) : decide (x = k) = false), Bool.or_false, if_neg hx0, if_neg hx0]
  · rw [hq] at h
    obtain ⟨h1, h2⟩ := word_add hs.d hm h
    have ea : addS s k = ⟨s.a, s.b, s.c, IntKind.u64.wrap (s.d + pwR (k % 64))⟩ := by unfold addS; rw [if_neg (by omega), if_neg (by omega), if_neg (by omega)]
    rw [ea]
    refine ⟨⟨hs.a, hs.b, hs.c, h1⟩, fun x hx => ?_⟩
    unfold hasS wordS
    by_cases hx0 : x / 64 = 3
    · rw [if_neg (by omega), if_neg (by omega), if_neg (by omega), if_neg (by omega), if_neg (by omega), if_neg (by omega), h2, ← decide_eq_decide.2 (Iff.of_eq (eqm x (by omega)))]
    · have hx3 : x / 64 = 0 ∨ x / 64 = 1 ∨ x / 64 = 2 := by omega
      rw [(decide_eq_false (fun e => by subst e; exact hx0 hq) : decide (x = k) = false), Bool.or_false]
      rcases hx3 with e | e | e <;> simp [e]
theorem MakeAt.yes {l : List Bool} {k : Nat} {s : Se} (h : MakeAt l k s) (hk : k < 256) (hb : l.getD k false = true) : MakeAt l (k + 1) (addS s k) := by
  have h0 : hasS s k = false := by rw [h.has k hk]; simp
  obtain ⟨h1, h2⟩ := addS_has h.ok hk h0
  refine ⟨h1, fun x hx => ?_⟩
  rw [h2 x hx, h.has x hx]
  by_cases e : x = k
  · subst e
    rw [hb, (decide_eq_true rfl : decide (x = x) = true), Bool.or_true, (decide_eq_true (Nat.lt_succ_self x) : decide (x < x + 1) = true)]
    rfl
  · rw [decide_eq_false e, Bool.or_false]
    congr 1
    exact decide_eq_decide.2 (by omega)
theorem arr_heap_set {w : World} {g i : Nat} {cs : Array Value} {t : TypeId} (hg : w.heap[g]? = some (.cells cs t (0, 0))) (v : Value) : ((w.setCell ⟨g, i, none⟩ v).drew).heap[g]? = some (.cells (cs.setIfInBounds i v) t (0, 0)) := heap_setCell_same _ _ _ _ _ _ hg
theorem arr_heap_other {w : World} {g i j : Nat} (h : j ≠ g) (v : Value) : ((w.setCell ⟨g, i, none⟩ v).drew).heap[j]? = w.heap[j]? := heap_setCell_other _ _ _ _ h
theorem addS0 {a b c d : Int} {k : Nat} (h : k / 64 = 0) : (Se.cs ⟨a, b, c, d⟩).setIfInBounds 0 (.int .u64 (IntKind.u64.wrap (a + pwR (k % 64)))) = (addS ⟨a, b, c, d⟩ k).cs := by unfold addS; rw [if_pos h]; rfl
theorem addS1 {a b c d : Int} {k : Nat} (h : k / 64 = 1) : (Se.cs ⟨a, b, c, d⟩).setIfInBounds 1 (.int .u64 (IntKind.u64.wrap (b + pwR (k % 64)))) = (addS ⟨a, b, c, d⟩ k).cs := by unfold addS; rw [if_neg (by omega), if_pos h]; rfl
theorem addS2 {a b c d : Int} {k : Nat} (h : k / 64 = 2) : (Se.cs ⟨a, b, c, d⟩).setIfInBounds 2 (.int .u64 (IntKind.u64.wrap (c + pwR (k % 64)))) = (addS ⟨a, b, c, d⟩ k).cs := by unfold addS; rw [if_neg (by omega), if_neg (by omega), if_pos h]; rfl
theorem addS3 {a b c d : Int} {k : Nat} (h : k / 64 = 3) : (Se.cs ⟨a, b, c, d⟩).setIfInBounds 3 (.int .u64 (IntKind.u64.wrap (d + pwR (k % 64)))) = (addS ⟨a, b, c, d⟩ k).cs := by unfold addS; rw [if_neg (by omega), if_neg (by omega), if_neg (by omega)]; rfl
/-- the set of those that are asked for -/
def MadeSe (l : List Bool) (w : World) (e : Ending) (w' : World) : Prop := (∃ s : Se, e = .returned s.v ∧ MakeAt l 256 s) ∧ Below w.heap.size w w'
set_option maxRecDepth 100000 in
set_option maxHeartbeats 4000000 in
theorem makeR_is {F : Nat → Prop} {w : World} {v : Value} {l : List Bool} (hl : BoolsIn F w v l) (h256 : l.length = 256) (hF : ∀ g, F g → g < w.heap.size) :
    Calls Tryz.prog 167 #[v] w (MadeSe l w) := by
  obtain ⟨ad, cp, rfl, _, hr⟩ := hl
  obtain ⟨ga, oa, rfl, hga, hca⟩ := hr (by intro e; rw [e] at h256; simp at h256)
  have hgl := hF ga hga
  have HCA := hid (show ∀ W : World, Below w.heap.size w W → ∀ i (hi : i < l.length), W.cell? ⟨ga, oa + i, none⟩ = some (.bool l[i]) from fun W hW i hi => by
    obtain ⟨_, hc0, rfl⟩ := hca i hi
    exact (cell_heap (hW.block ga hgl)).trans hc0)
  clear hca hr hF
  go_enter Tryz.func167, Tryz.ntmps167
  go_wp2
  go_loopw [4] (fun i wr => ∃ (k : Nat) (t : Se), k ≤ 256 ∧ i = .int .i64 k ∧ Hid (MakeAt l k t) ∧ wr.heap[w.heap.size]? = some (.cells Se.none.cs 30 (0, 0)) ∧ wr.heap[w.heap.size + 1]? = some (.cells t.cs 30 (0, 0)) ∧ Below w.heap.size w wr) (fun i _ => 256 - (RowKit.intOf i).toNat)
  case atStart => exact ⟨0, Se.none, by omega, rfl, hid (MakeAt.start l), (alloc_old (by simp)).trans (heap_alloc_new _ _), heap_alloc2_new _ _ _, ((Below.refl _ _).alloc (Nat.le_refl _) _).alloc (by simp) _⟩
  case round =>
    obtain ⟨k, t, hk, rfl, HMK, hb0, hb1, hbel⟩ := hrel
    have HB0 := hid hb0
    have HB1 := hid hb1
    obtain ⟨ta, tb, tc, td⟩ := t
    have c0 : wr.cell? ⟨w.heap.size + 1, 0, none⟩ = some (.int .u64 ta) := cell_blk hb1 rfl
    have c1 : wr.cell? ⟨w.heap.size + 1, 1, none⟩ = some (.int .u64 tb) := cell_blk hb1 rfl
    have c2 : wr.cell? ⟨w.heap.size + 1, 2, none⟩ = some (.int .u64 tc) := cell_blk hb1 rfl
    have c3 : wr.cell? ⟨w.heap.size + 1, 3, none⟩ = some (.int .u64 td) := cell_blk hb1 rfl
    have f0 := free_box (i := 0) hb1
    have f1 := free_box (i := 1) hb1
    have f2 := free_box (i := 2) hb1
    have f3 := free_box (i := 3) hb1
    by_cases hlt : k < 256
    · have hkl : k < l.length := by omega
      have hkl' : (k : Int) < (l.length : Int) := by omega
      have hcell := HCA.out wr hbel k hkl
      have hgd := hid (show l.getD k false = l[k] by rw [List.getD_eq_getElem?_getD, List.getElem?_eq_getElem hkl]; rfl)
      clear hb0 hb1
      have H256 := hid h256
      clear h256
      cases hb : l[k]
      · rw [hb] at hcell hgd
        have HNX := hid (HMK.out.no hgd.out)
        clear hb
        go_wp2
        go_roundw
        case rel => exact ⟨k + 1, ⟨ta, tb, tc, td⟩, by omega, by go_num, HNX, HB0.out, HB1.out, hbel⟩
        case measure => simp [RowKit.intOf]; omega
      · rw [hb] at hcell hgd
        have HNX := hid (HMK.out.yes hlt hgd.out)
        clear hb
        have hcase : k / 64 = 0 ∨ k / 64 = 1 ∨ k / 64 = 2 ∨ k / 64 = 3 := by omega
        rcases hcase with hq | hq | hq | hq
        all_goals
          have HQ := hid hq
          have hq' : (k : Int) / 64 = _ := (by omega : _ = ((k / 64 : Nat) : Int)).trans (congrArg _ hq)
          clear hq
          simp only [Int.cast_ofNat_Int] at hq'
          have x0 : IntKind.i64.wrap 0 = 0 := by decide
          have x1 : IntKind.i64.wrap 1 = 1 := by decide
          have x2 : IntKind.i64.wrap 2 = 2 := by decide
          have x3 : IntKind.i64.wrap 3 = 3 := by decide
          go_wp2
          go_region_with ((go_at_call 195; refine (powerR_any _ (k % 64) (tmod_nat k) (by omega) _).mono ?_; rintro e w' ⟨rfl, rfl⟩))
          all_goals go_wp2
          all_goals go_roundw
          all_goals first
            | (case rel => exact ⟨k + 1, _, by omega, by go_num, HNX, (arr_heap_other (by omega) _).trans HB0.out, (arr_heap_set HB1.out _).trans (by first | rw [← addS0 HQ.out] | rw [← addS1 HQ.out] | rw [← addS2 HQ.out] | rw [← addS3 HQ.out]), ((hbel.setCell (by simp) _).drew)⟩)
            | (case measure => simp [RowKit.intOf]; omega)
    · obtain rfl : k = 256 := by omega
      clear HCA
      have HBX := hid hbel
      have z0 : wr.cell? ⟨w.heap.size, 0, none⟩ = some (.int .u64 0) := cell_blk hb0 rfl
      have z1 : wr.cell? ⟨w.heap.size, 1, none⟩ = some (.int .u64 0) := cell_blk hb0 rfl
      have z2 : wr.cell? ⟨w.heap.size, 2, none⟩ = some (.int .u64 0) := cell_blk hb0 rfl
      have z3 : wr.cell? ⟨w.heap.size, 3, none⟩ = some (.int .u64 0) := cell_blk hb0 rfl
      have g0 := free_box (i := 0) hb0
      have g1 := free_box (i := 1) hb0
      have g2 := free_box (i := 2) hb0
      have g3 := free_box (i := 3) hb0
      clear hb0 hb1
      go_wp2
      exact bodyPost_ret (v := (⟨ta, tb, tc, td⟩ : Se).v) (by simp [results, Tryz.results167, go_sem, z0, z1, z2, z3]) rfl ⟨⟨⟨ta, tb, tc, td⟩, rfl, HMK.out⟩, (((HBX.out.setCell (by simp) _).setCell (by simp) _).setCell (by simp) _).setCell (by simp) _⟩
theorem pw_pos {m : Nat} (h : m < 64) : 0 < pwR m := by
  rw [pwR_eq m h]
  have : 0 < 2 ^ m := Nat.pow_pos (by decide)
  omega
theorem word_has {x : Int} (hx : wOk x) {m : Nat} (hm : m < 64) : ((IntKind.u64.wrap (x.tdiv (pwR m))).tmod 2 == 1) = decide (x / 2 ^ m % 2 = 1) := by
  obtain ⟨w, rfl⟩ := Int.eq_ofNat_of_zero_le hx.1
  have hw : w < 2 ^ 64 := by have := hx.2; omega
  rw [pwR_eq m hm]
  have e1 : (w : Int).tdiv ((2 ^ m : Nat) : Int) = ((w / 2 ^ m : Nat) : Int) := by
    rw [Int.tdiv_eq_ediv_of_nonneg (by omega)]; norm_cast
  have hle : w / 2 ^ m ≤ w := Nat.div_le_self _ _
  have e2 : ((w : Int) / 2 ^ m) = ((w / 2 ^ m : Nat) : Int) := by norm_cast
  rw [e1, e2]
  generalize w / 2 ^ m = q at *
  rw [wrap_u64 _ (by omega), Int.tmod_eq_emod_of_nonneg (by omega), Bool.eq_iff_iff, beq_iff_eq, decide_eq_true_eq]
theorem has_at0 {x0 x1 x2 x3 : Int} {b : Nat} (hx : wOk x0) (h : b / 64 = 0) : ((IntKind.u64.wrap (x0.tdiv (pwR (b % 64)))).tmod 2 == 1) = hasS ⟨x0, x1, x2, x3⟩ b := by
  rw [word_has hx (Nat.mod_lt _ (by decide))]; unfold hasS wordS; rw [if_pos h]
theorem has_at1 {x0 x1 x2 x3 : Int} {b : Nat} (hx : wOk x1) (h : b / 64 = 1) : ((IntKind.u64.wrap (x1.tdiv (pwR (b % 64)))).tmod 2 == 1) = hasS ⟨x0, x1, x2, x3⟩ b := by
  rw [word_has hx (Nat.mod_lt _ (by decide))]; unfold hasS wordS; rw [if_neg (by omega), if_pos h]
theorem has_at2 {x0 x1 x2 x3 : Int} {b : Nat} (hx : wOk x2) (h : b / 64 = 2) : ((IntKind.u64.wrap (x2.tdiv (pwR (b % 64)))).tmod 2 == 1) = hasS ⟨x0, x1, x2, x3⟩ b := by
  rw [word_has hx (Nat.mod_lt _ (by decide))]; unfold hasS wordS; rw [if_neg (by omega), if_neg (by omega), if_pos h]
theorem has_at3 {x0 x1 x2 x3 : Int} {b : Nat} (hx : wOk x3) (h : b / 64 = 3) : ((IntKind.u64.wrap (x3.tdiv (pwR (b % 64)))).tmod 2 == 1) = hasS ⟨x0, x1, x2, x3⟩ b := by
  rw [word_has hx (Nat.mod_lt _ (by decide))]; unfold hasS wordS; rw [if_neg (by omega), if_neg (by omega), if_neg (by omega)]
set_option maxRecDepth 100000 in
set_option maxHeartbeats 4000000 in
theorem hasR_any (s : Se) (hs : SeOk s) (n : Int) (b : Nat) (hn : n = b) (hb : b < 256) (w : World) :
    Calls Tryz.prog 196 #[s.v, .int .i64 n] w fun e w' => e = .returned (.bool (hasS s b)) ∧ Below w.heap.size w w' := by
  subst hn
  obtain ⟨x0, x1, x2, x3⟩ := s
  obtain ⟨h0, h1, h2, h3⟩ := hs
  have hcase : b / 64 = 0 ∨ b / 64 = 1 ∨ b / 64 = 2 ∨ b / 64 = 3 := by omega
  have hm : b % 64 < 64 := Nat.mod_lt _ (by decide)
  have hp := pw_pos hm
  have hpn : pwR (b % 64) ≠ 0 := by omega
  have HB := hid (fun k (hk : b / 64 = k) (hk4 : k < 4) => (show 0 ≤ (b : Int) / 64 ∧ (b : Int) / 64 < 4 by omega))
  rcases hcase with hq | hq | hq | hq
  all_goals
    have hq' : (b : Int) / 64 = _ := (by omega : _ = ((b / 64 : Nat) : Int)).trans (congrArg _ hq)
    simp only [Int.cast_ofNat_Int] at hq'
    have HQ := hid hq
    have hk := HB.out _ hq (by decide)
    clear hq HB
    go_enter Tryz.func196, Tryz.ntmps196
    go_wp2
    go_quiet ((go_at_call 195; exact quiet_same (powerR_any _ (b % 64) (tmod_nat b) (by omega) _)))
    go_wp2
    go_ret
    have hBB := below_drewN ((Below.refl w.heap.size w).alloc (Nat.le_refl _) (.cells #[.int .u64 x0, .int .u64 x1, .int .u64 x2, .int .u64 x3] 30))
    first
      | exact ⟨bool_eq (has_at0 h0 HQ.out), hBB _⟩
      | exact ⟨bool_eq (has_at1 h1 HQ.out), hBB _⟩
      | exact ⟨bool_eq (has_at2 h2 HQ.out), hBB _⟩
      | exact ⟨bool_eq (has_at3 h3 HQ.out), hBB _⟩
end Go.Proofs.YtfljcfdfgojdoaaGreatDoor.Sh.Rf

namespace Go.Proofs.YtfljcfdfgojdoaaGreatDoor.Sh.Rf
open Go.RowKit Go.Lib Go.Proofs.YtfljcfdfgojdoaaGreatDoor Go.Proofs.YtfljcfdfgojdoaaGreatDoor.Sh

/-- the marked ones, rising -/
def bl (p : Nat → Bool) (c : Nat) : List Nat := (List.range c).filter p
theorem bl_succ (p : Nat → Bool) (c : Nat) : bl p (c + 1) = bl p c ++ (if p c = true then [c] else []) := by
  unfold bl
  rw [List.range_succ, List.filter_append]
  congr 1
  by_cases h : p c = true <;> simp [h]
theorem bl_len (p : Nat → Bool) (c : Nat) : (bl p c).length = manyP p c := rfl
theorem bl_le (p : Nat → Bool) (c : Nat) : (bl p c).length ≤ c := by
  unfold bl
  exact Nat.le_trans (List.length_filter_le _ _) (by simp)
theorem bl_lt {p : Nat → Bool} {c i : Nat} (h : i < (bl p c).length) : (bl p c)[i] < c ∧ p (bl p c)[i] = true := by
  have := List.getElem_mem h
  unfold bl at this
  obtain ⟨h1, h2⟩ := List.mem_filter.1 this
  exact ⟨List.mem_range.1 h1, h2⟩
theorem bl_mono {p : Nat → Bool} {c i j : Nat} (hi : i < (bl p c).length) (hj : j < (bl p c).length) (h : i < j) : (bl p c)[i] < (bl p c)[j] := by
  have hp : (bl p c).Pairwise (· < ·) := List.pairwise_lt_range.filter _
  exact List.pairwise_iff_getElem.1 hp i j hi hj h
theorem bl_all {p : Nat → Bool} {c x : Nat} (hx : x < c) (hp : p x = true) : ∃ j, ∃ h : j < (bl p c).length, (bl p c)[j] = x := by
  have : x ∈ bl p c := List.mem_filter.2 ⟨List.mem_range.2 hx, hp⟩
  exact List.mem_iff_getElem.1 this
/-- the one at a place; behind the last one: c -/
def atB (p : Nat → Bool) (c i : Nat) : Nat := (bl p c).getD i c
theorem atB_of {p : Nat → Bool} {c i : Nat} (h : i < (bl p c).length) : atB p c i = (bl p c)[i] := by
  unfold atB
  rw [List.getD_eq_getElem?_getD, List.getElem?_eq_getElem h]; rfl
theorem atB_end {p : Nat → Bool} {c : Nat} : atB p c (bl p c).length = c := by
  unfold atB
  rw [List.getD_eq_getElem?_getD, List.getElem?_eq_none (Nat.le_refl _)]; rfl
theorem atB_gap {p : Nat → Bool} {c i x : Nat} (hi : i < (bl p c).length) (h1 : atB p c i < x) (h2 : x < atB p c (i + 1)) : p x = false := by
  rw [atB_of hi] at h1
  by_cases hp : p x = true
  · exfalso
    have hxc : x < c := by
      rcases Nat.lt_or_ge (i + 1) (bl p c).length with h | h
      · rw [atB_of h] at h2
        have := (bl_lt h).1
        omega
      · rw [show i + 1 = (bl p c).length by omega, atB_end] at h2
        exact h2
    obtain ⟨j, hj, e⟩ := bl_all hxc hp
    rcases Nat.lt_trichotomy j i with h | h | h
    · have := bl_mono hj hi h; omega
    · subst h; omega
    · rcases Nat.lt_or_eq_of_le (show i + 1 ≤ j from h) with h3 | h3
      · have := bl_mono (show i + 1 < (bl p c).length by omega) hj h3
        rw [atB_of (show i + 1 < (bl p c).length by omega)] at h2
        omega
      · subst h3
        rw [atB_of hj] at h2
        omega
  · simpa using hp
theorem atB_first {p : Nat → Bool} {c x : Nat} (h2 : x < atB p c 0) (hc : x < c) : p x = false := by
  by_cases hp : p x = true
  · exfalso
    obtain ⟨j, hj, e⟩ := bl_all hc hp
    rw [atB_of (show 0 < (bl p c).length by omega)] at h2
    rcases Nat.eq_zero_or_pos j with h | h
    · subst h; omega
    · have := bl_mono (show 0 < (bl p c).length by omega) hj h
      omega
  · simpa using hp
theorem atB_next {p : Nat → Bool} {c i : Nat} (hi : i < (bl p c).length) : atB p c i < atB p c (i + 1) ∧ atB p c (i + 1) ≤ c := by
  rw [atB_of hi]
  rcases Nat.lt_or_ge (i + 1) (bl p c).length with h | h
  · rw [atB_of h]
    exact ⟨bl_mono hi h (Nat.lt_succ_self i), Nat.le_of_lt (bl_lt h).1⟩
  · rw [show i + 1 = (bl p c).length by omega, atB_end]
    exact ⟨(bl_lt hi).1, Nat.le_refl _⟩
-- rows
theorem rows_gap {p : Nat → Bool} {b : Nat} : ∀ (k : Nat), (∀ x, b ≤ x → x < b + k → p x = false) → rowsTo p (b + k) = rowsTo p b
  | 0, _ => rfl
  | k + 1, h => by
    rw [← Nat.add_assoc, rowsTo_no, rows_gap k fun x h1 h2 => h x h1 (by omega)]
    unfold lastP
    rw [h (b + k) (by omega) (by omega)]; rfl
theorem rows_first {p : Nat → Bool} : rowsTo p (atB p 256 0) = [] := by
  have hle : atB p 256 0 ≤ 256 := by
    rcases Nat.eq_zero_or_pos (bl p 256).length with h | h
    · have := atB_end (p := p) (c := 256)
      rw [h] at this; omega
    · rw [atB_of h]; exact Nat.le_of_lt (bl_lt h).1
  have := rows_gap (p := p) (b := 0) (atB p 256 0) fun x _ h2 => atB_first (c := 256) (by omega) (by omega)
  rw [Nat.zero_add] at this
  rw [this]; rfl
theorem start_first {p : Nat → Bool} (h : 0 < (bl p 256).length) : startP p (atB p 256 0) = atB p 256 0 := by
  refine startP_new ?_
  rcases Nat.eq_zero_or_pos (atB p 256 0) with h1 | h1
  · exact .inl h1
  · have := (bl_lt h).1
    rw [← atB_of h] at this
    exact .inr (atB_first (c := 256) (by omega) (by omega))
/-- is the one at a place the last of its row? -/
theorem last_at {p : Nat → Bool} {i : Nat} (hi : i < (bl p 256).length) : lastP p (atB p 256 i) = (decide (i + 1 = (bl p 256).length) || decide (atB p 256 (i + 1) ≠ atB p 256 i + 1)) := by
  obtain ⟨h1, h2⟩ := atB_next hi
  have hp : p (atB p 256 i) = true := by rw [atB_of hi]; exact (bl_lt hi).2
  unfold lastP
  rw [hp, Bool.true_and]
  rcases Nat.lt_or_ge (i + 1) (bl p 256).length with h | h
  · rw [decide_eq_false (show ¬ i + 1 = (bl p 256).length by omega), Bool.false_or]
    have h3 : atB p 256 (i + 1) < 256 := by rw [atB_of h]; exact (bl_lt h).1
    by_cases he : atB p 256 (i + 1) = atB p 256 i + 1
    · have hq : p (atB p 256 i + 1) = true := by rw [← he, atB_of h]; exact (bl_lt h).2
      rw [hq, decide_eq_true (show atB p 256 i < 255 by omega), decide_eq_false (by simpa using he)]; rfl
    · rw [atB_gap hi (Nat.lt_succ_self _) (by omega), decide_eq_true he, Bool.and_false]; rfl
  · have he : i + 1 = (bl p 256).length := by omega
    rw [decide_eq_true he, Bool.true_or]
    rw [he, atB_end] at h1 h2
    by_cases h255 : atB p 256 i < 255
    · rw [atB_gap hi (Nat.lt_succ_self _) (by rw [he, atB_end]; omega), Bool.and_false]; rfl
    · rw [decide_eq_false h255]; rfl
theorem rows_next {p : Nat → Bool} {i : Nat} (hi : i < (bl p 256).length) : rowsTo p (atB p 256 (i + 1)) = rowsTo p (atB p 256 i) ++ (if lastP p (atB p 256 i) = true then [(startP p (atB p 256 i), atB p 256 i)] else []) := by
  obtain ⟨h1, h2⟩ := atB_next hi
  have h3 := rows_gap (p := p) (b := atB p 256 i + 1) (atB p 256 (i + 1) - (atB p 256 i + 1)) fun x h4 h5 => atB_gap hi (by omega) (by omega)
  rw [show atB p 256 i + 1 + (atB p 256 (i + 1) - (atB p 256 i + 1)) = atB p 256 (i + 1) by omega, rowsTo_succ] at h3
  exact h3
theorem start_next {p : Nat → Bool} {i : Nat} (hi : i + 1 < (bl p 256).length) : startP p (atB p 256 (i + 1)) = if lastP p (atB p 256 i) = true then atB p 256 (i + 1) else startP p (atB p 256 i) := by
  have hi0 : i < (bl p 256).length := by omega
  obtain ⟨h1, h2⟩ := atB_next hi0
  have hp : p (atB p 256 i) = true := by rw [atB_of hi0]; exact (bl_lt hi0).2
  have hl := last_at hi0
  rw [decide_eq_false (show ¬ i + 1 = (bl p 256).length by omega), Bool.false_or] at hl
  by_cases he : atB p 256 (i + 1) = atB p 256 i + 1
  · rw [decide_eq_false (by simpa using he)] at hl
    rw [hl, if_neg (by decide), he, startP_on hp]
  · rw [decide_eq_true he] at hl
    rw [hl, if_pos rfl]
    exact startP_new (.inr (atB_gap hi0 (by omega) (by omega)))
-- walks
def blB (p : Nat → Bool) (c : Nat) : List B := (bl p c).map UInt8.ofNat
theorem blB_len (p : Nat → Bool) (c : Nat) : (blB p c).length = (bl p c).length := by unfold blB; rw [List.length_map]
theorem blB_yes {p : Nat → Bool} {c : Nat} (h : p c = true) : blB p (c + 1) = blB p c ++ [UInt8.ofNat c] := by unfold blB; rw [bl_succ, if_pos h, List.map_append]; rfl
theorem blB_no {p : Nat → Bool} {c : Nat} (h : p c = false) : blB p (c + 1) = blB p c := by unfold blB; rw [bl_succ, if_neg (by rw [h]; decide), List.append_nil]
set_option maxRecDepth 100000 in
set_option maxHeartbeats 2000000 in
theorem bytesR_any (s : Se) (hs : SeOk s) (w : World) :
    Calls Tryz.prog 168 #[s.v] w fun e w' => (∃ v, e = .returned v ∧ OwnB w' (w.heap.size + 1) v (blB (hasS s) 256)) ∧ Below w.heap.size w w' := by
  have HB0 := hid ((Below.refl w.heap.size w).alloc (Nat.le_refl _) (.cells s.cs 30))
  have hbx : (w.alloc (.cells s.cs 30)).heap[w.heap.size]? = some (.cells s.cs 30 (0, 0)) := heap_alloc_new _ _
  have hsz0 : (w.alloc (.cells s.cs 30)).heap.size = w.heap.size + 1 := by simp
  have HBX := hid hbx
  have HHAS := hid (fun (n : Int) (b : Nat) (h : n = b) (hb : b < 256) (W : World) => hasR_any s hs n b h hb W)
  clear hbx hs
  go_enter Tryz.func168, Tryz.ntmps168
  go_upto_region 1 with fail
  generalize w.alloc (.cells s.cs 30) = W0 at *
  go_wp2
  go_loopw [3, 4] (fun v i wr => ∃ (k n cp : Nat) (ad : Option Addr), k ≤ 256 ∧ i = .int .i64 k ∧ v = .slice ad n cp ∧ Hid (n = (blB (hasS s) k).length) ∧ Hid (OwnB wr (w.heap.size + 1) (.slice ad n cp) (blB (hasS s) k)) ∧ Below (w.heap.size + 1) W0 wr) (fun _ i _ => 256 - (RowKit.intOf i).toNat)
  case atStart => exact ⟨0, 0, 0, none, Nat.zero_le _, rfl, rfl, rfl, World.ownsRow_nil _ _ _ _, Below.refl _ _⟩
  case round =>
    obtain ⟨k, n, cp, ad, hk, rfl, rfl, HN, HO, hb⟩ := hrel
    have HB := hid hb
    have hbx := (hb.block w.heap.size (by omega)).trans HBX.out
    have hsz := hb.size
    have z0 := cell_blk (i := 0) hbx rfl
    have z1 := cell_blk (i := 1) hbx rfl
    have z2 := cell_blk (i := 2) hbx rfl
    have z3 := cell_blk (i := 3) hbx rfl
    clear hb hbx
    have HNL := hid (show (blB (hasS s) k).length ≤ k by rw [blB_len]; exact bl_le (hasS s) k)
    by_cases hlt : k < 256
    · have hki : (k : Int) < 256 := by omega
      have hcall := HHAS.out k k rfl hlt wr
      cases hh : hasS s k with
      | false =>
        rw [hh] at hcall
        have HE := hid (blB_no hh)
        clear hh
        go_wp2_with (go_at_call 196; refine hcall.mono ?_; clear hcall; rintro e w2 ⟨rfl, hb2⟩)
        go_roundw
        case rel => exact ⟨k + 1, n, cp, ad, by omega, by go_num, rfl, by rw [HE.out]; exact HN, hid (by rw [HE.out]; exact HO.out.below hb2), HB.out.trans (hb2.mono (by omega))⟩
        case measure => simp [RowKit.intOf]; omega
      | true =>
        rw [hh] at hcall
        have HE := hid (blB_yes hh)
        have e8 : bV (UInt8.ofNat k) = .int .u8 (k : Int) := by show Value.int .u8 (((UInt8.ofNat k).toNat : Nat) : Int) = _; rw [byte_of]; congr 1; omega
        have E8 := hid e8
        have hn := HN.out
        have w8 : IntKind.u8.wrap (k : Int) = k := by show (k : Int) % (2 ^ 8 : Int) = k; omega
        clear hh e8
        subst hn
        go_wp2_with (first | (go_at_call 196; refine hcall.mono ?_; clear hcall; rintro e w2 ⟨rfl, hb2⟩; have HO2 := hid (HO.out.below hb2); have HB2 := hid (HB.out.trans (hb2.mono (by omega))); have hs2 := hb2.size) | (at_builtin; refine wpList_app rfl (.tmp 12) (.tmp 15) rfl (w.heap.size + 1) (.slice ad (blB (hasS s) k).length cp) (blB (hasS s) k) rfl (HO2.out.alloc _) w2.heap.size [UInt8.ofNat k] 1 rfl (heap_b (by show #[bV (UInt8.ofNat k)] = _; rw [E8.out])) (by have := HNL.out; show (blB (hasS s) k).length + 1 ≤ _; omega) (by simp; omega) ?_; intro ad1 n1 cp1 w3 hn1 ho hb3 _; have HO3 := hid ho; have HN3 := hid hn1.out; have HB3 := hid (HB2.out.trans ((((Below.refl (w.heap.size + 1) w2).alloc (by omega) _)).trans hb3)); clear ho hb3 hn1))
        go_roundw
        case rel => exact ⟨k + 1, n1, cp1, ad1, by omega, by go_num, rfl, hid (by rw [HE.out]; exact HN3.out), hid (by rw [HE.out]; exact HO3.out), HB3.out⟩
        case measure => simp [RowKit.intOf]; omega
    · obtain rfl : k = 256 := by omega
      have HSZ := hid hsz0
      clear hlt
      go_wp2
      go_ret
      exact ⟨⟨_, rfl, HO.out⟩, HB0.out.trans (HB.out.mono (by omega))⟩
end Go.Proofs.YtfljcfdfgojdoaaGreatDoor.Sh.Rf
