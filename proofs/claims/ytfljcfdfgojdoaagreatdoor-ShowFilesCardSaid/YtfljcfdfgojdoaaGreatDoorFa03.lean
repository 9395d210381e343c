/-
  The contract of lex.bytesOf, for a text of no more than 2^47 bytes.
-/
import Derived.Test.YtfljcfdfgojdoaaGreatDoorFa02
import Derived.Deep.RegionHeld3
import Derived.Deep.DeepCutAuto
import Derived.Deep.RegionWith
namespace Go.Proofs.YtfljcfdfgojdoaaGreatDoor
open Go.RowKit Go.Lib

theorem _root_.Go.RowKit.Below.held {W w1 : World} (h : Below W.heap.size W w1) {b o : Nat} {v : Value} (hc : W.cell? ⟨b, o, none⟩ = some v) : w1.cell? ⟨b, o, none⟩ = some v :=
  (h.cell (p := ⟨b, o, none⟩) (World.block_lt_of_cell? W _ hc)).trans hc

/-- the four cells of a set in a block of its own, as a walk wants them -/
abbrev SetIn (g : Nat) (t : Se) (w : World) : Prop :=
  w.cell? ⟨g, 0, none⟩ = some (.int .u64 t.a) ∧ w.cell? ⟨g, 1, none⟩ = some (.int .u64 t.b) ∧ w.cell? ⟨g, 2, none⟩ = some (.int .u64 t.c) ∧ w.cell? ⟨g, 3, none⟩ = some (.int .u64 t.d) ∧
  w.frozen? ⟨g, 0, none⟩ = false ∧ w.frozen? ⟨g, 1, none⟩ = false ∧ w.frozen? ⟨g, 2, none⟩ = false ∧ w.frozen? ⟨g, 3, none⟩ = false
theorem setIn_of {g : Nat} {t : Se} {w : World} (h : w.heap[g]? = some (.cells t.cs 30 (0, 0))) : SetIn g t w :=
  ⟨cell_of_row _ _ _ _ _ _ h, cell_of_row _ _ _ _ _ _ h, cell_of_row _ _ _ _ _ _ h, cell_of_row _ _ _ _ _ _ h, frozen_of_row _ _ _ _ _ h, frozen_of_row _ _ _ _ _ h, frozen_of_row _ _ _ _ _ h, frozen_of_row _ _ _ _ _ h⟩
theorem setIn_below {g : Nat} {t : Se} {W w1 : World} (h : SetIn g t W) (hb : Below W.heap.size W w1) : SetIn g t w1 := by
  obtain ⟨c0, c1, c2, c3, f0, f1, f2, f3⟩ := h
  have hl : g < W.heap.size := World.block_lt_of_cell? W _ c0
  exact ⟨hb.held c0, hb.held c1, hb.held c2, hb.held c3, (hb.frozen (p := ⟨g, 0, none⟩) hl).trans f0, (hb.frozen (p := ⟨g, 1, none⟩) hl).trans f1, (hb.frozen (p := ⟨g, 2, none⟩) hl).trans f2, (hb.frozen (p := ⟨g, 3, none⟩) hl).trans f3⟩

theorem set4_heap {w : World} {g : Nat} {t : Se} (h : w.heap[g]? = some (.cells t.cs 30 (0, 0))) (u : Se) :
    ((((w.setCell ⟨g, 0, none⟩ (.int .u64 u.a)).setCell ⟨g, 1, none⟩ (.int .u64 u.b)).setCell ⟨g, 2, none⟩ (.int .u64 u.c)).setCell ⟨g, 3, none⟩ (.int .u64 u.d)).heap[g]? = some (.cells u.cs 30 (0, 0)) :=
  heap_setCell_same _ g 3 _ 30 _ (heap_setCell_same _ g 2 _ 30 _ (heap_setCell_same _ g 1 _ 30 _ (heap_setCell_same _ g 0 _ 30 _ h)))
theorem set4_other {w : World} {g k : Nat} (h : k ≠ g) (u : Se) :
    ((((w.setCell ⟨g, 0, none⟩ (.int .u64 u.a)).setCell ⟨g, 1, none⟩ (.int .u64 u.b)).setCell ⟨g, 2, none⟩ (.int .u64 u.c)).setCell ⟨g, 3, none⟩ (.int .u64 u.d)).heap[k]? = w.heap[k]? :=
  (heap_setCell_other _ _ _ _ h).trans ((heap_setCell_other _ _ _ _ h).trans ((heap_setCell_other _ _ _ _ h).trans (heap_setCell_other _ _ _ _ h)))
theorem set4_below {B : Nat} {a w : World} {g : Nat} (h : Below B a w) (hg : B ≤ g) (u : Se) :
    Below B a ((((w.setCell ⟨g, 0, none⟩ (.int .u64 u.a)).setCell ⟨g, 1, none⟩ (.int .u64 u.b)).setCell ⟨g, 2, none⟩ (.int .u64 u.c)).setCell ⟨g, 3, none⟩ (.int .u64 u.d)) :=
  (((h.setCell hg _).setCell hg _).setCell hg _).setCell hg _
theorem set_round {w wr w1 w2 : World} {t : Se} (hb : Below w.heap.size w wr) (h0 : wr.heap[w.heap.size]? = some (.cells Tok.zero.cells 139 (0, 0))) (h1 : wr.heap[w.heap.size + 1]? = some (.cells t.cs 30 (0, 0)))
    (hbs : Below wr.drew.heap.size wr.drew w1) (hba : Below w1.heap.size w1 w2) (u : Se) :
    let wz := ((((w2.setCell ⟨w.heap.size + 1, 0, none⟩ (.int .u64 u.a)).setCell ⟨w.heap.size + 1, 1, none⟩ (.int .u64 u.b)).setCell ⟨w.heap.size + 1, 2, none⟩ (.int .u64 u.c)).setCell ⟨w.heap.size + 1, 3, none⟩ (.int .u64 u.d))
    wz.heap[w.heap.size]? = some (.cells Tok.zero.cells 139 (0, 0)) ∧ wz.heap[w.heap.size + 1]? = some (.cells u.cs 30 (0, 0)) ∧ Below w.heap.size w wz := by
  intro wz
  have l1 : w.heap.size + 1 < wr.heap.size := (Array.getElem?_eq_some_iff.1 h1).1
  have hs1 : wr.heap.size ≤ w1.heap.size := hbs.size
  have e1 : ∀ k, k < wr.heap.size → w2.heap[k]? = wr.heap[k]? := fun k hk => (hba.block k (by omega)).trans (hbs.block k hk)
  have hb2 : Below w.heap.size w w2 := (hb.drew.trans (hbs.mono hb.size)).trans (hba.mono (by have := hb.size; omega))
  exact ⟨(set4_other (by omega) u).trans ((e1 _ (by omega)).trans h0), set4_heap ((e1 _ l1).trans h1) u, set4_below hb2 (by omega) u⟩
theorem set_round' {w wr w1 : World} {t : Se} (hb : Below w.heap.size w wr) (h0 : wr.heap[w.heap.size]? = some (.cells Tok.zero.cells 139 (0, 0))) (h1 : wr.heap[w.heap.size + 1]? = some (.cells t.cs 30 (0, 0)))
    (hbs : Below wr.heap.size wr w1) (u : Se) :
    let wz := ((((w1.setCell ⟨w.heap.size + 1, 0, none⟩ (.int .u64 u.a)).setCell ⟨w.heap.size + 1, 1, none⟩ (.int .u64 u.b)).setCell ⟨w.heap.size + 1, 2, none⟩ (.int .u64 u.c)).setCell ⟨w.heap.size + 1, 3, none⟩ (.int .u64 u.d))
    wz.heap[w.heap.size]? = some (.cells Tok.zero.cells 139 (0, 0)) ∧ wz.heap[w.heap.size + 1]? = some (.cells u.cs 30 (0, 0)) ∧ Below w.heap.size w wz := by
  intro wz
  have l1 : w.heap.size + 1 < wr.heap.size := (Array.getElem?_eq_some_iff.1 h1).1
  exact ⟨(set4_other (by omega) u).trans ((hbs.block _ (by omega)).trans h0), set4_heap ((hbs.block _ l1).trans h1) u, set4_below (hb.trans (hbs.mono hb.size)) (by omega) u⟩
/-- a set up to its closing sign; the fuel: more than the bytes that are left -/
def setL : Nat → Se → List B → Except Int (Se × List B)
  | 0, _, _ => .error 6
  | _ + 1, _, [] => .error 6
  | f + 1, t, c :: r =>
    if ((c.toNat : Int) != 93) = false then .ok (t, r) else
    match oneL (c :: r) with
    | .error e => .error e
    | .ok (b, n) =>
      match (c :: r).drop n with
      | [] => setL f (anyS t (spanS b b)) []
      | d :: r1 =>
        if ((d.toNat : Int) == 45) = true then
          match oneL r1 with
          | .error e => .error e
          | .ok (b2, m) => if (b2.toNat : Int) < b.toNat then .error 4 else setL f (anyS t (spanS b b2)) (r1.drop m)
        else setL f (anyS t (spanS b b)) (d :: r1)
def setFin (n : Nat) (others : Bool) : Except Int (Se × List B) → Except Int (Tok × Nat)
  | .error e => .error e
  | .ok (t, rest) => .ok (⟨3, [], if others then notS t else t, 0, 0⟩, n - rest.length)
def bytesL (r : List B) : Except Int (Tok × Nat) :=
  match r with
  | [] => setFin r.length false (setL (r.length + 1) Se.none r)
  | c :: r' => if ((c.toNat : Int) == 94) = true then setFin r.length true (setL (r.length + 1) Se.none r') else setFin r.length false (setL (r.length + 1) Se.none r)
theorem setL_end {s : ByteArray} {j f : Nat} {t : Se} (h : j < s.size) (hq : ((s[j].toNat : Int) != 93) = false) : setL (f + 1) t (sfx s j) = .ok (t, sfx s (j + 1)) := by
  rw [sfx_cons s j h, setL, if_pos hq]
theorem setL_bad {s : ByteArray} {j f : Nat} {t : Se} {e : Int} (h : j < s.size) (hq : ((s[j].toNat : Int) != 93) = true) (h1 : oneL (sfx s j) = .error e) : setL (f + 1) t (sfx s j) = .error e := by
  rw [sfx_cons s j h] at h1 ⊢
  rw [setL, if_neg (by rw [hq]; simp), h1]
theorem setL_one {s : ByteArray} {j f : Nat} {t : Se} {b : B} {n : Nat} (h : j < s.size) (hq : ((s[j].toNat : Int) != 93) = true) (h1 : oneL (sfx s j) = .ok (b, n))
    (hd : ∀ h2 : j + n < s.size, ((s[j + n].toNat : Int) == 45) = false) : setL (f + 1) t (sfx s j) = setL f (anyS t (spanS b b)) (sfx s (j + n)) := by
  rw [sfx_cons s j h] at h1 ⊢
  rw [setL, if_neg (by rw [hq]; simp), h1]
  simp only
  rw [← sfx_cons s j h, sfx_drop]
  by_cases h2 : j + n < s.size
  · rw [sfx_cons s (j + n) h2]
    simp only
    rw [if_neg (by rw [hd h2]; simp)]
  · rw [sfx_nil s (j + n) (by omega)]
theorem setL_bad2 {s : ByteArray} {j f : Nat} {t : Se} {b : B} {n : Nat} {e : Int} (h : j < s.size) (hq : ((s[j].toNat : Int) != 93) = true) (h1 : oneL (sfx s j) = .ok (b, n))
    (h2 : j + n < s.size) (hd : ((s[j + n].toNat : Int) == 45) = true) (h3 : oneL (sfx s (j + n + 1)) = .error e) : setL (f + 1) t (sfx s j) = .error e := by
  rw [sfx_cons s j h] at h1 ⊢
  rw [setL, if_neg (by rw [hq]; simp), h1]
  simp only
  rw [← sfx_cons s j h, sfx_drop, sfx_cons s (j + n) h2]
  simp only
  rw [if_pos hd, h3]
theorem setL_two {s : ByteArray} {j f : Nat} {t : Se} {b b2 : B} {n m : Nat} (h : j < s.size) (hq : ((s[j].toNat : Int) != 93) = true) (h1 : oneL (sfx s j) = .ok (b, n))
    (h2 : j + n < s.size) (hd : ((s[j + n].toNat : Int) == 45) = true) (h3 : oneL (sfx s (j + n + 1)) = .ok (b2, m)) :
    setL (f + 1) t (sfx s j) = if (b2.toNat : Int) < b.toNat then .error 4 else setL f (anyS t (spanS b b2)) (sfx s (j + n + 1 + m)) := by
  rw [sfx_cons s j h] at h1 ⊢
  rw [setL, if_neg (by rw [hq]; simp), h1]
  simp only
  rw [← sfx_cons s j h, sfx_drop, sfx_cons s (j + n) h2]
  simp only
  rw [if_pos hd, h3]
  simp only
  rw [sfx_drop]
theorem bytesL_yes {s : ByteArray} {k : Nat} (h : k < s.size) (hq : ((s[k].toNat : Int) == 94) = true) : bytesL (sfx s k) = setFin (s.size - k) true (setL (s.size - k + 1) Se.none (sfx s (k + 1))) := by
  have hl := sfx_len s k
  rw [sfx_cons s k h] at hl ⊢
  unfold bytesL
  simp only
  rw [if_pos hq, hl]
theorem bytesL_no {s : ByteArray} {k : Nat} (hq : ∀ h : k < s.size, ((s[k].toNat : Int) == 94) = false) : bytesL (sfx s k) = setFin (s.size - k) false (setL (s.size - k + 1) Se.none (sfx s k)) := by
  have hl := sfx_len s k
  by_cases h : k < s.size
  · rw [sfx_cons s k h] at hl ⊢
    unfold bytesL
    simp only
    rw [if_neg (by rw [hq h]; simp), hl]
  · rw [sfx_nil s k (by omega)] at hl ⊢
    unfold bytesL
    simp only
    rw [hl]

set_option maxRecDepth 100000 in
set_option maxHeartbeats 1000000 in
theorem bytes_any (s : ByteArray) (k : Nat) (w : World) (hk : k ≤ s.size) (hs : s.size ≤ maxLen) :
    Calls Tryz.prog 205 #[.string s, .int .i64 k] w fun e w' => e = .returned (tokV k (bytesL (sfx s k))) ∧ Below w.heap.size w w' := by
  have hs' := hs
  unfold maxLen at hs
  go_enter Tryz.func205, Tryz.ntmps205
  go_upto_region 1 with fail
  go_cut [7] (fun s7 wx => ∃ oth : Bool, s7 = .bool oth ∧ wx = w.alloc (.cells Tok.zero.cells 139) ∧ Hid (if oth then ∃ h : k < s.size, ((s[k].toNat : Int) == 94) = true else ∀ h : k < s.size, ((s[k].toNat : Int) == 94) = false))
  case first =>
    by_cases hlt : k < s.size
    · cases hq : ((s[k].toNat : Int) == 94)
      · go_wp2
        go_meet
        exact ⟨false, rfl, rfl, fun h => hq⟩
      · go_wp2
        go_meet
        exact ⟨true, rfl, rfl, hlt, hq⟩
    · go_wp2
      go_meet
      exact ⟨false, rfl, rfl, fun h => by omega⟩
  case rest =>
  obtain ⟨oth, rfl, rfl, HO⟩ := hcut
  go_upto_if 23 with fail
  go_cut [1] (fun s1 wx => ∃ j : Nat, k ≤ j ∧ j ≤ s.size ∧ s1 = .int .i64 j ∧ wx = w.alloc (.cells Tok.zero.cells 139) ∧ Hid (bytesL (sfx s k) = setFin (s.size - k) oth (setL (s.size - k + 1) Se.none (sfx s j))))
  case first =>
    cases oth
    · go_wp2
      go_meet
      exact ⟨k, by omega, by omega, rfl, rfl, bytesL_no (by simpa using HO.out)⟩
    · obtain ⟨hlt, hq⟩ : ∃ h : k < s.size, ((s[k].toNat : Int) == 94) = true := by simpa using HO.out
      clear hq
      go_wp2
      go_meet
      exact ⟨k + 1, by omega, by omega, by go_num, rfl, bytesL_yes hlt (by have := HO.out; simp at this; simpa using this.2)⟩
  case rest =>
    obtain ⟨k1, hk1, hk2, rfl, rfl, HB⟩ := hcut
    go_wp2
    go_loopw [1] (fun i wr => ∃ (j f : Nat) (t : Se), k ≤ j ∧ j ≤ s.size ∧ i = .int .i64 j ∧ s.size < j + f ∧ wr.heap[w.heap.size]? = some (.cells Tok.zero.cells 139 (0, 0)) ∧ wr.heap[w.heap.size + 1]? = some (.cells t.cs 30 (0, 0)) ∧ Below w.heap.size w wr ∧ Hid (bytesL (sfx s k) = setFin (s.size - k) oth (setL f t (sfx s j)))) (fun i _ => s.size - (intOf i).toNat)
    case atStart => exact ⟨k1, s.size - k + 1, Se.none, hk1, hk2, rfl, by omega, heap_alloc2_old _ _ _, heap_alloc2_new _ _ _, ((Below.refl _ _).alloc (Nat.le_refl _) _).alloc (by simp) _, HB⟩
    case round =>
      obtain ⟨j, f, t, hkj, hj, rfl, hf, hb0, hb1, hbel, H⟩ := hrel
      have HB0 := hid hb0
      have HB1 := hid hb1
      have hsz : w.heap.size + 1 < wr.heap.size := (Array.getElem?_eq_some_iff.1 hb1).1
      have HS : Hid (SetIn (w.heap.size + 1) t wr.drew) := setIn_of hb1
      obtain ⟨c0, c1, c2, c3, f0, f1, f2, f3⟩ := setIn_of hb1
      clear hb0 hb1
      obtain ⟨f, rfl⟩ : ∃ f', f = f' + 1 := ⟨f - 1, by omega⟩
      by_cases hlt : j < s.size
      · cases hq : ((s[j].toNat : Int) != 93)
        · have hfin := hid (H.out.trans (congrArg _ (setL_end hlt hq)))
          go_upto_if 80 with fail
          go_cut [] (fun wx => wx.heap[w.heap.size]? = some (.cells Tok.zero.cells 139 (0, 0)) ∧ wx.heap[w.heap.size + 1]? = some (.cells (if oth then notS t else t).cs 30 (0, 0)) ∧ Below w.heap.size w wx)
          case first =>
            cases oth
            · go_wp2
              go_meet
              exact ⟨HB0.out, HB1.out, hbel⟩
            · go_wp2_with (first | (go_at_call 142; refine (not_any t _).mono ?_; rintro e w1 ⟨rfl, hbs⟩; obtain ⟨c0', c1', c2', c3', f0', f1', f2', f3'⟩ := setIn_below (W := wr) HS.out hbs))
              go_meet
              exact set_round' hbel HB0.out HB1.out hbs (notS t)
          case rest =>
            obtain ⟨hb0', hb1', hbel'⟩ := hcut
            have HC0 := hid hb0'
            clear hb0' c0 c1 c2 c3 f0 f1 f2 f3
            obtain ⟨c0, c1, c2, c3, f0, f1, f2, f3⟩ := setIn_of hb1'
            clear hb1'
            generalize hu : (if oth = true then notS t else t) = u at *
            have HU := hid hu
            clear hu
            go_wp2_with (refine wpList_store_blk rfl 139 (.tmp 4) (.tmp 84) rfl 8 info63 w.heap.size 139 _ HC0.out rfl (⟨3, [], u, 0, 0⟩ : Tok).cells rfl rfl rfl rfl ?_)
            exact bodyPost_ret (results_cell3 rfl _ _ w.heap.size 139 _ (0, 0) _ rfl (setRow_heap HC0.out _) Tryz.underlying139 rfl info63) rfl ⟨ret_eq (by rw [tokV_ok hfin.out, HU.out]; simp [sfx_len]; omega), Below.setRow hbel' (Nat.le_refl _) _⟩
        · rcases h1 : oneL (sfx s j) with x | ⟨b, n⟩
          · have hqb := hid (H.out.trans (congrArg _ (setL_bad hlt hq h1)))
            have H1 := hid h1
            rcases oneL_err h1 with rfl | rfl
            all_goals
              clear h1
              go_wp2_with (first | (go_at_call 225; refine (one_at s _ j _ (by omega) (by omega) hs').mono ?_; rintro e w' ⟨rfl, rfl⟩; rw [H1.out]; simp only [byteV]) | (refine wpList_store_blk rfl 139 (.tmp 4) (.tmp 45) rfl 8 info63 w.heap.size 139 _ HB0.out rfl Tok.zero.cells rfl rfl rfl rfl ?_))
              exact bodyPost_ret (results_cell3 rfl _ _ w.heap.size 139 _ (0, 0) _ rfl (setRow_heap HB0.out _) Tryz.underlying139 rfl info63) rfl ⟨ret_eq (by rw [tokV_bad hqb.out]; simp [Tok.cells, Tok.zero, Se.none]), Below.setRow hbel (Nat.le_refl _) _⟩
          · have hln := oneL_len h1
            rw [sfx_len] at hln
            have hln1 := hln.1
            have hln2 := hln.2
            clear hln
            have H1 := hid h1
            clear h1
            by_cases hlt2 : j + n < s.size
            · cases hd : ((s[j + n].toNat : Int) == 45)
              · have hon := hid (setL_one (f := f) (t := t) hlt hq H1.out (fun _ => hd))
                go_upto_region 16 with (first | (go_at_call 225; refine (one_at s _ j _ (by omega) (by omega) hs').mono ?_; rintro e w' ⟨rfl, rfl⟩; rw [H1.out]; simp only [byteV]))
                go_cut [] (fun wx => wx.heap[w.heap.size]? = some (.cells Tok.zero.cells 139 (0, 0)) ∧ wx.heap[w.heap.size + 1]? = some (.cells (anyS t (spanS b b)).cs 30 (0, 0)) ∧ Below w.heap.size w wx)
                case first =>
                  go_region_with ((first | (go_at_call 227; refine (span_any b b _).mono ?_; rintro e w1 ⟨rfl, hbs⟩; obtain ⟨c0', c1', c2', c3', f0', f1', f2', f3'⟩ := setIn_below HS.out hbs) | (go_at_call 226; refine (any_any t (spanS b b) _).mono ?_; rintro e w2 ⟨rfl, hba⟩; obtain ⟨c0', c1', c2', c3', f0', f1', f2', f3'⟩ := setIn_below (setIn_below HS.out hbs) hba)))
                  all_goals go_wp2_with fail
                  all_goals go_meet
                  all_goals exact set_round hbel HB0.out HB1.out hbs hba (anyS t (spanS b b))
                case rest =>
                  obtain ⟨hb0', hb1', hbel'⟩ := hcut
                  have HC0 := hid hb0'
                  have HC1 := hid hb1'
                  clear hb0' hb1' c0 c1 c2 c3 f0 f1 f2 f3
                  go_wp2
                  go_roundw
                  case rel => exact ⟨j + n, f, _, by omega, by omega, by go_num, by omega, HC0.out, HC1.out, hbel', H.out.trans (congrArg _ hon.out)⟩
                  case measure => simp [intOf]; omega
              · rcases h3 : oneL (sfx s (j + n + 1)) with x | ⟨b2, m⟩
                · have hqb := hid (H.out.trans (congrArg _ (setL_bad2 hlt hq H1.out hlt2 hd h3)))
                  have H3 := hid h3
                  rcases oneL_err h3 with rfl | rfl
                  all_goals
                    clear h3
                    go_wp2_with fail
                    refine (one_at s _ j _ (by omega) (by omega) hs').mono ?_; rintro e w' ⟨rfl, rfl⟩; rw [H1.out]; simp only [byteV]
                    go_wp2_with (first | (go_at_call 225; refine (one_at s _ (j + n + 1) _ (by omega) (by omega) hs').mono ?_; rintro e w' ⟨rfl, rfl⟩; rw [H3.out]; simp only [byteV]) | (refine wpList_store_blk rfl 139 (.tmp 4) (.tmp 68) rfl 8 info63 w.heap.size 139 _ HB0.out rfl Tok.zero.cells rfl rfl rfl rfl ?_))
                    exact bodyPost_ret (results_cell3 rfl _ _ w.heap.size 139 _ (0, 0) _ rfl (setRow_heap HB0.out _) Tryz.underlying139 rfl info63) rfl ⟨ret_eq (by rw [tokV_bad hqb.out]; simp [Tok.cells, Tok.zero, Se.none]), Below.setRow hbel (Nat.le_refl _) _⟩
                · have hln3 := oneL_len h3
                  rw [sfx_len] at hln3
                  have hlm1 := hln3.1
                  have hlm2 := hln3.2
                  clear hln3
                  have htwo := setL_two (f := f) (t := t) hlt hq H1.out hlt2 hd h3
                  have H3 := hid h3
                  clear h3
                  by_cases hbb : (b2.toNat : Int) < b.toNat
                  · rw [if_pos hbb] at htwo
                    have hqb := hid (H.out.trans (congrArg _ htwo))
                    clear htwo
                    go_wp2_with fail
                    refine (one_at s _ j _ (by omega) (by omega) hs').mono ?_; rintro e w' ⟨rfl, rfl⟩; rw [H1.out]; simp only [byteV]
                    go_wp2_with (first | (go_at_call 225; refine (one_at s _ (j + n + 1) _ (by omega) (by omega) hs').mono ?_; rintro e w' ⟨rfl, rfl⟩; rw [H3.out]; simp only [byteV]) | (refine wpList_store_blk rfl 139 (.tmp 4) (.tmp 73) rfl 8 info63 w.heap.size 139 _ HB0.out rfl Tok.zero.cells rfl rfl rfl rfl ?_))
                    exact bodyPost_ret (results_cell3 rfl _ _ w.heap.size 139 _ (0, 0) _ rfl (setRow_heap HB0.out _) Tryz.underlying139 rfl info63) rfl ⟨ret_eq (by rw [tokV_bad hqb.out]; simp [Tok.cells, Tok.zero, Se.none]), Below.setRow hbel (Nat.le_refl _) _⟩
                  · rw [if_neg hbb] at htwo
                    have hon := hid htwo
                    clear htwo
                    go_wp2_with fail
                    refine (one_at s _ j _ (by omega) (by omega) hs').mono ?_; rintro e w' ⟨rfl, rfl⟩; rw [H1.out]; simp only [byteV]
                    go_upto_region 16 with ((go_at_call 225; refine (one_at s _ (j + n + 1) _ (by omega) (by omega) hs').mono ?_; rintro e w' ⟨rfl, rfl⟩; rw [H3.out]; simp only [byteV]))
                    go_cut [] (fun wx => wx.heap[w.heap.size]? = some (.cells Tok.zero.cells 139 (0, 0)) ∧ wx.heap[w.heap.size + 1]? = some (.cells (anyS t (spanS b b2)).cs 30 (0, 0)) ∧ Below w.heap.size w wx)
                    case first =>
                      go_region_with ((first | (go_at_call 227; refine (span_any b b2 _).mono ?_; rintro e w1 ⟨rfl, hbs⟩; obtain ⟨c0', c1', c2', c3', f0', f1', f2', f3'⟩ := setIn_below HS.out hbs) | (go_at_call 226; refine (any_any t (spanS b b2) _).mono ?_; rintro e w2 ⟨rfl, hba⟩; obtain ⟨c0', c1', c2', c3', f0', f1', f2', f3'⟩ := setIn_below (setIn_below HS.out hbs) hba)))
                      all_goals go_wp2_with fail
                      all_goals go_meet
                      all_goals exact set_round hbel HB0.out HB1.out hbs hba (anyS t (spanS b b2))
                    case rest =>
                      obtain ⟨hb0', hb1', hbel'⟩ := hcut
                      have HC0 := hid hb0'
                      have HC1 := hid hb1'
                      clear hb0' hb1' c0 c1 c2 c3 f0 f1 f2 f3
                      go_wp2
                      go_roundw
                      case rel => exact ⟨j + n + 1 + m, f, _, by omega, by omega, by go_num, by omega, HC0.out, HC1.out, hbel', H.out.trans (congrArg _ hon.out)⟩
                      case measure => simp [intOf]; omega
            · have hon := hid (setL_one (f := f) (t := t) hlt hq H1.out (fun h => absurd h hlt2))
              go_upto_region 16 with (first | (go_at_call 225; refine (one_at s _ j _ (by omega) (by omega) hs').mono ?_; rintro e w' ⟨rfl, rfl⟩; rw [H1.out]; simp only [byteV]))
              go_cut [] (fun wx => wx.heap[w.heap.size]? = some (.cells Tok.zero.cells 139 (0, 0)) ∧ wx.heap[w.heap.size + 1]? = some (.cells (anyS t (spanS b b)).cs 30 (0, 0)) ∧ Below w.heap.size w wx)
              case first =>
                go_region_with ((first | (go_at_call 227; refine (span_any b b _).mono ?_; rintro e w1 ⟨rfl, hbs⟩; obtain ⟨c0', c1', c2', c3', f0', f1', f2', f3'⟩ := setIn_below HS.out hbs) | (go_at_call 226; refine (any_any t (spanS b b) _).mono ?_; rintro e w2 ⟨rfl, hba⟩; obtain ⟨c0', c1', c2', c3', f0', f1', f2', f3'⟩ := setIn_below (setIn_below HS.out hbs) hba)))
                all_goals go_wp2_with fail
                all_goals go_meet
                all_goals exact set_round hbel HB0.out HB1.out hbs hba (anyS t (spanS b b))
              case rest =>
                obtain ⟨hb0', hb1', hbel'⟩ := hcut
                have HC0 := hid hb0'
                have HC1 := hid hb1'
                clear hb0' hb1' c0 c1 c2 c3 f0 f1 f2 f3
                go_wp2
                go_roundw
                case rel => exact ⟨j + n, f, _, by omega, by omega, by go_num, by omega, HC0.out, HC1.out, hbel', H.out.trans (congrArg _ hon.out)⟩
                case measure => simp [intOf]; omega
      · obtain rfl : j = s.size := by omega
        have hqb := hid (H.out.trans (congrArg _ (show setL (f + 1) t (sfx s s.size) = .error 6 by rw [sfx_nil s s.size (Nat.le_refl _)]; rfl)))
        go_wp2_with (first | (go_at_call 225; refine (one_at s _ s.size _ (by omega) (by omega) hs').mono ?_; rintro e w' ⟨rfl, rfl⟩; rw [sfx_nil s s.size (Nat.le_refl _)]; simp only [byteV, oneL]) | (refine wpList_store_blk rfl 139 (.tmp 4) (.tmp 45) rfl 8 info63 w.heap.size 139 _ HB0.out rfl Tok.zero.cells rfl rfl rfl rfl ?_))
        exact bodyPost_ret (results_cell3 rfl _ _ w.heap.size 139 _ (0, 0) _ rfl (setRow_heap HB0.out _) Tryz.underlying139 rfl info63) rfl ⟨ret_eq (by rw [tokV_bad hqb.out]; simp [Tok.cells, Tok.zero, Se.none]), Below.setRow hbel (Nat.le_refl _) _⟩
end Go.Proofs.YtfljcfdfgojdoaaGreatDoor
