/-
  parse.right as it is, kinds 1 to 4. (Printed by genRt.py.)
-/
import Derived.Test.YtfljcfdfgojdoaaGreatDoorFa19
namespace Go.Proofs.YtfljcfdfgojdoaaGreatDoor.Sh
open Go.RowKit Go.Lib Go.Proofs.YtfljcfdfgojdoaaGreatDoor
set_option maxRecDepth 100000 in
set_option maxHeartbeats 8000000 in
theorem right_k1 (N : Nat) (x : List B) (s : Se) (ps : List Re) (mn mx : Int) (hx6 : x.length ≤ 140737488351232) (ih : ∀ p ∈ ps, RightAt N p) : RightAt (N + 1) (.mk 1 x s ps mn mx) := by
  intro F cs w hFw h
  obtain ⟨ad, cap, rfl, hlen, hps⟩ := h.open
  have HR := hid (rightB_succ N 1 x s ps mn mx)
  have HN := hid (show nodeB 1 x s ps.length mn mx = (decide (x.length ≤ 256) && (noneB s && (decide (ps.length = 0) && (decide (mn = 0) && decide (mx = 0))))) from rfl)
  have IH := hid ih
  have HPS := hid hps
  have HFW := hid hFw
  unfold maxLen at hlen
  clear h ih hps hFw
  generalize hpl : ps.length = pl at *
  have HPL := hid hpl
  clear hpl
  have e24 := eq24
  have n1 : Se.none.a = 0 := rfl
  have n2 : Se.none.b = 0 := rfl
  have n3 : Se.none.c = 0 := rfl
  have n4 : Se.none.d = 0 := rfl
  have HB := hid (show ∀ o1 o2 : Obj, Below w.heap.size w ((w.alloc o1).alloc o2) from fun o1 o2 => ((Below.refl _ w).alloc (Nat.le_refl _) _).alloc (by simp) _)
  by_cases hle : x.length ≤ 256
  · have hle' : ((⟨x.toArray⟩ : ByteArray).size : Int) ≤ 256 := by show (x.toArray.size : Int) ≤ 256; simp; omega
    by_cases hss : noneB s = true
    · obtain rfl := noneB_eq hss
      by_cases hn0 : pl = 0
      · have hnx : ¬ (0 : Int) < (pl : Int) := by omega
        by_cases hmn : mn = 0
        · subst hmn
          by_cases hmx : mx = 0
          · subst hmx
            have HT := hid (show rightB (N + 1) (.mk 1 x Se.none ps 0 0) = ps.all (rightB N) by rw [HR.out, HN.out, decide_eq_true hle, decide_eq_true hn0]; rfl)
            clear hle
            go_enter Tryz.func54, Tryz.ntmps54
            go_wp2
            go_loopw [91] (fun v wr => v = .int .i64 0 ∧ Below w.heap.size w wr) (fun _ _ => 0)
            case atStart => exact ⟨rfl, (HB.out _ _)⟩
            case round =>
              obtain ⟨rfl, hwr⟩ := hrel
              have hpn : ps = [] := List.length_eq_zero_iff.1 (HPL.out.trans hn0)
              go_wp2
              go_ret
              exact ⟨bool_eq (by rw [HT.out]; exact (by rw [hpn]; rfl : ps.all (rightB N) = true).symm), hwr⟩
          · have hmxx : (mx == 0) = false := by simpa using hmx
            have HF := hid (show rightB (N + 1) (.mk 1 x Se.none ps 0 mx) = false by rw [HR.out, HN.out, decide_eq_false hmx]; simp)
            clear hmx
            go_enter Tryz.func54, Tryz.ntmps54
            go_wp2
            go_ret
            exact ⟨bool_eq HF.out.symm, (HB.out _ _)⟩
        · have hmnx : (mn == 0) = false := by simpa using hmn
          have HF := hid (show rightB (N + 1) (.mk 1 x Se.none ps mn mx) = false by rw [HR.out, HN.out, decide_eq_false hmn]; simp)
          clear hmn
          go_enter Tryz.func54, Tryz.ntmps54
          go_wp2
          go_ret
          exact ⟨bool_eq HF.out.symm, (HB.out _ _)⟩
      · have hnx : (0 : Int) < (pl : Int) := by omega
        have HF := hid (show rightB (N + 1) (.mk 1 x Se.none ps mn mx) = false by rw [HR.out, HN.out, decide_eq_false hn0]; simp)
        clear hn0
        go_enter Tryz.func54, Tryz.ntmps54
        go_wp2
        go_ret
        exact ⟨bool_eq HF.out.symm, (HB.out _ _)⟩
    · have hsx : (s.a == 0 && s.b == 0 && s.c == 0 && s.d == 0) = false := by have := hss; rw [Bool.not_eq_true] at this; exact this
      have HF := hid (show rightB (N + 1) (.mk 1 x s ps mn mx) = false by rw [HR.out, HN.out, (by rw [Bool.not_eq_true] at hss; exact hss : noneB s = false)]; simp)
      clear hss
      go_enter Tryz.func54, Tryz.ntmps54
      go_wp2
      go_ret
      exact ⟨bool_eq HF.out.symm, (HB.out _ _)⟩
  · have hle' : ¬ ((⟨x.toArray⟩ : ByteArray).size : Int) ≤ 256 := by show ¬ (x.toArray.size : Int) ≤ 256; simp; omega
    have HF := hid (show rightB (N + 1) (.mk 1 x s ps mn mx) = false by rw [HR.out, HN.out, decide_eq_false hle]; simp)
    clear hle
    go_enter Tryz.func54, Tryz.ntmps54
    go_wp2
    go_ret
    exact ⟨bool_eq HF.out.symm, (HB.out _ _)⟩
set_option maxRecDepth 100000 in
set_option maxHeartbeats 8000000 in
theorem right_k2 (N : Nat) (x : List B) (s : Se) (ps : List Re) (mn mx : Int) (hx6 : x.length ≤ 140737488351232) (ih : ∀ p ∈ ps, RightAt N p) : RightAt (N + 1) (.mk 2 x s ps mn mx) := by
  intro F cs w hFw h
  obtain ⟨ad, cap, rfl, hlen, hps⟩ := h.open
  have HR := hid (rightB_succ N 2 x s ps mn mx)
  have HN := hid (show nodeB 2 x s ps.length mn mx = (decide (x = []) && (decide (ps.length = 0) && (decide (mn = 0) && decide (mx = 0)))) from rfl)
  have IH := hid ih
  have HPS := hid hps
  have HFW := hid hFw
  unfold maxLen at hlen
  clear h ih hps hFw
  generalize hpl : ps.length = pl at *
  have HPL := hid hpl
  clear hpl
  have e24 := eq24
  have n1 : Se.none.a = 0 := rfl
  have n2 : Se.none.b = 0 := rfl
  have n3 : Se.none.c = 0 := rfl
  have n4 : Se.none.d = 0 := rfl
  have HB := hid (show ∀ o1 o2 : Obj, Below w.heap.size w ((w.alloc o1).alloc o2) from fun o1 o2 => ((Below.refl _ w).alloc (Nat.le_refl _) _).alloc (by simp) _)
  by_cases hxe : x = []
  · subst hxe
    by_cases hn0 : pl = 0
    · have hnx : ¬ (0 : Int) < (pl : Int) := by omega
      by_cases hmn : mn = 0
      · subst hmn
        by_cases hmx : mx = 0
        · subst hmx
          have HT := hid (show rightB (N + 1) (.mk 2 [] s ps 0 0) = ps.all (rightB N) by rw [HR.out, HN.out, decide_eq_true hn0]; rfl)
          go_enter Tryz.func54, Tryz.ntmps54
          go_wp2
          go_loopw [91] (fun v wr => v = .int .i64 0 ∧ Below w.heap.size w wr) (fun _ _ => 0)
          case atStart => exact ⟨rfl, (HB.out _ _)⟩
          case round =>
            obtain ⟨rfl, hwr⟩ := hrel
            have hpn : ps = [] := List.length_eq_zero_iff.1 (HPL.out.trans hn0)
            go_wp2
            go_ret
            exact ⟨bool_eq (by rw [HT.out]; exact (by rw [hpn]; rfl : ps.all (rightB N) = true).symm), hwr⟩
        · have hmxx : (mx == 0) = false := by simpa using hmx
          have HF := hid (show rightB (N + 1) (.mk 2 [] s ps 0 mx) = false by rw [HR.out, HN.out, decide_eq_false hmx]; simp)
          clear hmx
          go_enter Tryz.func54, Tryz.ntmps54
          go_wp2
          go_ret
          exact ⟨bool_eq HF.out.symm, (HB.out _ _)⟩
      · have hmnx : (mn == 0) = false := by simpa using hmn
        have HF := hid (show rightB (N + 1) (.mk 2 [] s ps mn mx) = false by rw [HR.out, HN.out, decide_eq_false hmn]; simp)
        clear hmn
        go_enter Tryz.func54, Tryz.ntmps54
        go_wp2
        go_ret
        exact ⟨bool_eq HF.out.symm, (HB.out _ _)⟩
    · have hnx : (0 : Int) < (pl : Int) := by omega
      have HF := hid (show rightB (N + 1) (.mk 2 [] s ps mn mx) = false by rw [HR.out, HN.out, decide_eq_false hn0]; simp)
      clear hn0
      go_enter Tryz.func54, Tryz.ntmps54
      go_wp2
      go_ret
      exact ⟨bool_eq HF.out.symm, (HB.out _ _)⟩
  · obtain ⟨hx1, hx2⟩ := str_none hxe
    have HF := hid (show rightB (N + 1) (.mk 2 x s ps mn mx) = false by rw [HR.out, HN.out, decide_eq_false hxe]; simp)
    clear hxe
    go_enter Tryz.func54, Tryz.ntmps54
    go_wp2
    go_ret
    exact ⟨bool_eq HF.out.symm, (HB.out _ _)⟩
set_option maxRecDepth 100000 in
set_option maxHeartbeats 8000000 in
theorem right_k3 (N : Nat) (x : List B) (s : Se) (ps : List Re) (mn mx : Int) (hx6 : x.length ≤ 140737488351232) (ih : ∀ p ∈ ps, RightAt N p) : RightAt (N + 1) (.mk 3 x s ps mn mx) := by
  intro F cs w hFw h
  obtain ⟨ad, cap, rfl, hlen, hps⟩ := h.open
  have HR := hid (rightB_succ N 3 x s ps mn mx)
  have HN := hid (show nodeB 3 x s ps.length mn mx = (nameOk x && (noneB s && (decide (ps.length = 0) && (decide (mn = 0) && decide (mx = 0))))) from rfl)
  have IH := hid ih
  have HPS := hid hps
  have HFW := hid hFw
  unfold maxLen at hlen
  clear h ih hps hFw
  generalize hpl : ps.length = pl at *
  have HPL := hid hpl
  clear hpl
  have e24 := eq24
  have n1 : Se.none.a = 0 := rfl
  have n2 : Se.none.b = 0 := rfl
  have n3 : Se.none.c = 0 := rfl
  have n4 : Se.none.d = 0 := rfl
  have HB := hid (show ∀ o1 o2 : Obj, Below w.heap.size w ((w.alloc o1).alloc o2) from fun o1 o2 => ((Below.refl _ w).alloc (Nat.le_refl _) _).alloc (by simp) _)
  by_cases hnm : nameOk x = true
  ·
    by_cases hss : noneB s = true
    · obtain rfl := noneB_eq hss
      by_cases hn0 : pl = 0
      · have hnx : ¬ (0 : Int) < (pl : Int) := by omega
        by_cases hmn : mn = 0
        · subst hmn
          by_cases hmx : mx = 0
          · subst hmx
            have HT := hid (show rightB (N + 1) (.mk 3 x Se.none ps 0 0) = ps.all (rightB N) by rw [HR.out, HN.out, hnm, decide_eq_true hn0]; rfl)
            go_enter Tryz.func54, Tryz.ntmps54
            go_wp2_with (go_at_call 110; refine (mayName_any x _ (by omega)).mono ?_; rintro e w2 ⟨rfl, hb2⟩; rw [hnm]; have r0 := (hb2.block w.heap.size (by simp; omega)).trans (heap_alloc2_old _ _ _); have r1 := (hb2.block (w.heap.size + 1) (by simp)).trans (heap_alloc2_new _ _ _); have HB2 := hid ((HB.out _ _).trans (hb2.mono (by simp; omega))); have hs2 := hb2.size; clear hb2; have z1 := cell_blk (i := 1) r1 rfl; have z2 := cell_blk (i := 2) r1 rfl; have z3 := cell_blk (i := 3) r1 rfl; have z4 := cell_blk (i := 4) r1 rfl; have z5 := cell_blk (i := 5) r1 rfl; have z6 := cell_blk (i := 6) r1 rfl; have z7 := cell_blk (i := 7) r1 rfl; have z8 := cell_blk (i := 8) r1 rfl; have y6 := cell_blk (i := 6) r0 rfl; clear r0 r1)
            go_loopw [91] (fun v wr => v = .int .i64 0 ∧ Below w.heap.size w wr) (fun _ _ => 0)
            case atStart => exact ⟨rfl, HB2.out⟩
            case round =>
              obtain ⟨rfl, hwr⟩ := hrel
              have hpn : ps = [] := List.length_eq_zero_iff.1 (HPL.out.trans hn0)
              go_wp2
              go_ret
              exact ⟨bool_eq (by rw [HT.out]; exact (by rw [hpn]; rfl : ps.all (rightB N) = true).symm), hwr⟩
          · have hmxx : (mx == 0) = false := by simpa using hmx
            have HF := hid (show rightB (N + 1) (.mk 3 x Se.none ps 0 mx) = false by rw [HR.out, HN.out, decide_eq_false hmx]; simp)
            clear hmx
            go_enter Tryz.func54, Tryz.ntmps54
            go_wp2_with (go_at_call 110; refine (mayName_any x _ (by omega)).mono ?_; rintro e w2 ⟨rfl, hb2⟩; rw [hnm]; have r0 := (hb2.block w.heap.size (by simp; omega)).trans (heap_alloc2_old _ _ _); have r1 := (hb2.block (w.heap.size + 1) (by simp)).trans (heap_alloc2_new _ _ _); have HB2 := hid ((HB.out _ _).trans (hb2.mono (by simp; omega))); have hs2 := hb2.size; clear hb2; have z1 := cell_blk (i := 1) r1 rfl; have z2 := cell_blk (i := 2) r1 rfl; have z3 := cell_blk (i := 3) r1 rfl; have z4 := cell_blk (i := 4) r1 rfl; have z5 := cell_blk (i := 5) r1 rfl; have z6 := cell_blk (i := 6) r1 rfl; have z7 := cell_blk (i := 7) r1 rfl; have z8 := cell_blk (i := 8) r1 rfl; have y6 := cell_blk (i := 6) r0 rfl; clear r0 r1)
            go_ret
            exact ⟨bool_eq HF.out.symm, HB2.out⟩
        · have hmnx : (mn == 0) = false := by simpa using hmn
          have HF := hid (show rightB (N + 1) (.mk 3 x Se.none ps mn mx) = false by rw [HR.out, HN.out, decide_eq_false hmn]; simp)
          clear hmn
          go_enter Tryz.func54, Tryz.ntmps54
          go_wp2_with (go_at_call 110; refine (mayName_any x _ (by omega)).mono ?_; rintro e w2 ⟨rfl, hb2⟩; rw [hnm]; have r0 := (hb2.block w.heap.size (by simp; omega)).trans (heap_alloc2_old _ _ _); have r1 := (hb2.block (w.heap.size + 1) (by simp)).trans (heap_alloc2_new _ _ _); have HB2 := hid ((HB.out _ _).trans (hb2.mono (by simp; omega))); have hs2 := hb2.size; clear hb2; have z1 := cell_blk (i := 1) r1 rfl; have z2 := cell_blk (i := 2) r1 rfl; have z3 := cell_blk (i := 3) r1 rfl; have z4 := cell_blk (i := 4) r1 rfl; have z5 := cell_blk (i := 5) r1 rfl; have z6 := cell_blk (i := 6) r1 rfl; have z7 := cell_blk (i := 7) r1 rfl; have z8 := cell_blk (i := 8) r1 rfl; have y6 := cell_blk (i := 6) r0 rfl; clear r0 r1)
          go_ret
          exact ⟨bool_eq HF.out.symm, HB2.out⟩
      · have hnx : (0 : Int) < (pl : Int) := by omega
        have HF := hid (show rightB (N + 1) (.mk 3 x Se.none ps mn mx) = false by rw [HR.out, HN.out, decide_eq_false hn0]; simp)
        clear hn0
        go_enter Tryz.func54, Tryz.ntmps54
        go_wp2_with (go_at_call 110; refine (mayName_any x _ (by omega)).mono ?_; rintro e w2 ⟨rfl, hb2⟩; rw [hnm]; have r0 := (hb2.block w.heap.size (by simp; omega)).trans (heap_alloc2_old _ _ _); have r1 := (hb2.block (w.heap.size + 1) (by simp)).trans (heap_alloc2_new _ _ _); have HB2 := hid ((HB.out _ _).trans (hb2.mono (by simp; omega))); have hs2 := hb2.size; clear hb2; have z1 := cell_blk (i := 1) r1 rfl; have z2 := cell_blk (i := 2) r1 rfl; have z3 := cell_blk (i := 3) r1 rfl; have z4 := cell_blk (i := 4) r1 rfl; have z5 := cell_blk (i := 5) r1 rfl; have z6 := cell_blk (i := 6) r1 rfl; have z7 := cell_blk (i := 7) r1 rfl; have z8 := cell_blk (i := 8) r1 rfl; have y6 := cell_blk (i := 6) r0 rfl; clear r0 r1)
        go_ret
        exact ⟨bool_eq HF.out.symm, HB2.out⟩
    · have hsx : (s.a == 0 && s.b == 0 && s.c == 0 && s.d == 0) = false := by have := hss; rw [Bool.not_eq_true] at this; exact this
      have HF := hid (show rightB (N + 1) (.mk 3 x s ps mn mx) = false by rw [HR.out, HN.out, (by rw [Bool.not_eq_true] at hss; exact hss : noneB s = false)]; simp)
      clear hss
      go_enter Tryz.func54, Tryz.ntmps54
      go_wp2_with (go_at_call 110; refine (mayName_any x _ (by omega)).mono ?_; rintro e w2 ⟨rfl, hb2⟩; rw [hnm]; have r0 := (hb2.block w.heap.size (by simp; omega)).trans (heap_alloc2_old _ _ _); have r1 := (hb2.block (w.heap.size + 1) (by simp)).trans (heap_alloc2_new _ _ _); have HB2 := hid ((HB.out _ _).trans (hb2.mono (by simp; omega))); have hs2 := hb2.size; clear hb2; have z1 := cell_blk (i := 1) r1 rfl; have z2 := cell_blk (i := 2) r1 rfl; have z3 := cell_blk (i := 3) r1 rfl; have z4 := cell_blk (i := 4) r1 rfl; have z5 := cell_blk (i := 5) r1 rfl; have z6 := cell_blk (i := 6) r1 rfl; have z7 := cell_blk (i := 7) r1 rfl; have z8 := cell_blk (i := 8) r1 rfl; have y6 := cell_blk (i := 6) r0 rfl; clear r0 r1)
      go_ret
      exact ⟨bool_eq HF.out.symm, HB2.out⟩
  · rw [Bool.not_eq_true] at hnm
    have HF := hid (show rightB (N + 1) (.mk 3 x s ps mn mx) = false by rw [HR.out, HN.out, hnm]; simp)
    go_enter Tryz.func54, Tryz.ntmps54
    go_wp2_with (go_at_call 110; refine (mayName_any x _ (by omega)).mono ?_; rintro e w2 ⟨rfl, hb2⟩; rw [hnm]; have r0 := (hb2.block w.heap.size (by simp; omega)).trans (heap_alloc2_old _ _ _); have r1 := (hb2.block (w.heap.size + 1) (by simp)).trans (heap_alloc2_new _ _ _); have HB2 := hid ((HB.out _ _).trans (hb2.mono (by simp; omega))); have hs2 := hb2.size; clear hb2; have z1 := cell_blk (i := 1) r1 rfl; have z2 := cell_blk (i := 2) r1 rfl; have z3 := cell_blk (i := 3) r1 rfl; have z4 := cell_blk (i := 4) r1 rfl; have z5 := cell_blk (i := 5) r1 rfl; have z6 := cell_blk (i := 6) r1 rfl; have z7 := cell_blk (i := 7) r1 rfl; have z8 := cell_blk (i := 8) r1 rfl; have y6 := cell_blk (i := 6) r0 rfl; clear r0 r1)
    go_ret
    exact ⟨bool_eq HF.out.symm, HB2.out⟩
set_option maxRecDepth 100000 in
set_option maxHeartbeats 8000000 in
theorem right_k4 (N : Nat) (x : List B) (s : Se) (ps : List Re) (mn mx : Int) (hx6 : x.length ≤ 140737488351232) (ih : ∀ p ∈ ps, RightAt N p) : RightAt (N + 1) (.mk 4 x s ps mn mx) := by
  intro F cs w hFw h
  obtain ⟨ad, cap, rfl, hlen, hps⟩ := h.open
  have HR := hid (rightB_succ N 4 x s ps mn mx)
  have HN := hid (show nodeB 4 x s ps.length mn mx = (decide (2 ≤ ps.length) && (decide (x = []) && (noneB s && (decide (mn = 0) && decide (mx = 0))))) from rfl)
  have IH := hid ih
  have HPS := hid hps
  have HFW := hid hFw
  unfold maxLen at hlen
  clear h ih hps hFw
  generalize hpl : ps.length = pl at *
  have HPL := hid hpl
  clear hpl
  have e24 := eq24
  have n1 : Se.none.a = 0 := rfl
  have n2 : Se.none.b = 0 := rfl
  have n3 : Se.none.c = 0 := rfl
  have n4 : Se.none.d = 0 := rfl
  have HB := hid (show ∀ o1 o2 : Obj, Below w.heap.size w ((w.alloc o1).alloc o2) from fun o1 o2 => ((Below.refl _ w).alloc (Nat.le_refl _) _).alloc (by simp) _)
  by_cases hn2 : 2 ≤ pl
  · have hnx : (2 : Int) ≤ (pl : Int) := by omega
    by_cases hxe : x = []
    · subst hxe
      by_cases hss : noneB s = true
      · obtain rfl := noneB_eq hss
        by_cases hmn : mn = 0
        · subst hmn
          by_cases hmx : mx = 0
          · subst hmx
            have HT := hid (show rightB (N + 1) (.mk 4 [] Se.none ps 0 0) = ps.all (rightB N) by rw [HR.out, HN.out, decide_eq_true hn2]; rfl)
            clear hn2
            go_enter Tryz.func54, Tryz.ntmps54
            go_wp2
            go_loopw [91] (fun v wr => ∃ i : Nat, i ≤ pl ∧ v = .int .i64 i ∧ Hid (∀ p, p ∈ ps.take i → rightB N p = true) ∧ Below w.heap.size w wr ∧ w.heap.size + 2 ≤ wr.heap.size) (fun v _ => pl - (RowKit.intOf v).toNat)
            case atStart => exact ⟨0, Nat.zero_le _, rfl, by intro p hp; simp at hp, HB.out _ _, by simp⟩
            case round =>
              obtain ⟨i, hi, rfl, HS, hwr, hsz⟩ := hrel
              by_cases hlt' : i < pl
              · have hlt : i < ps.length := Nat.lt_of_lt_of_eq hlt' HPL.out.symm
                obtain ⟨g, off, rfl, hgF, hparts⟩ := HPS.out (by rintro rfl; simp at hlt)
                obtain ⟨k1, x1, s1, ad1, n1, cap1, mn1, mx1, hr1, hc⟩ := hparts.at (List.getElem?_eq_getElem hlt)
                have hgl := HFW.out g hgF
                have low : ∀ (o : Nat) {v : Value}, w.cell? ⟨g, o, none⟩ = some v → wr.cell? ⟨g, o, none⟩ = some v := fun o v h => (hwr.cell (p := ⟨g, o, none⟩) hgl).trans h
                have a0 : wr.cell? ⟨g, off + i * 9, none⟩ = _ := low _ (hc 0 _ rfl)
                have a1 := low _ (hc 1 _ rfl)
                have a2 := low _ (hc 2 _ rfl)
                have a3 := low _ (hc 3 _ rfl)
                have a4 := low _ (hc 4 _ rfl)
                have a5 := low _ (hc 5 _ rfl)
                have a6 := low _ (hc 6 _ rfl)
                have a7 := low _ (hc 7 _ rfl)
                have a8 := low _ (hc 8 _ rfl)
                have hgi : (i : Int) < (pl : Int) := by omega
                have hwa : Below w.heap.size w (wr.alloc (.cells (reC k1 x1 s1 (.slice ad1 n1 cap1) mn1 mx1) 33)) := hwr.alloc (by omega) _
                have hcall := IH.out ps[i] (List.getElem_mem hlt) F _ (wr.alloc (.cells (reC k1 x1 s1 (.slice ad1 n1 cap1) mn1 mx1) 33)) (fun g hg => by have := HFW.out g hg; simp; omega) (hr1.below HFW.out hwa)
                have HTS := hid (take_snoc hlt)
                have HM := hid (List.getElem_mem hlt)
                clear hparts hc low hr1 hwa
                by_cases hd : rightB N ps[i] = true
                · rw [hd] at hcall
                  have HD := hid hd
                  clear hd
                  go_wp2_with (go_at_call 54; refine hcall.mono ?_; clear hcall; rintro e w3 ⟨rfl, hb3⟩)
                  have hrelS := hid (show ∀ p, p ∈ ps.take (i + 1) → rightB N p = true from fun p hp => by
                    rw [HTS.out] at hp
                    rcases List.mem_append.1 hp with hp | hp
                    · exact HS.out p hp
                    · rw [List.mem_singleton.1 hp]; exact HD.out)
                  go_roundw
                  case rel => first
                    | exact ⟨i + 1, by omega, by go_num, hrelS, (hwr.alloc (by omega) _).trans (hb3.mono (by simp; omega)), by have := hb3.size; simp at this; omega⟩
                    | (repeat apply Exists.intro
                       refine And.intro ?_ rfl
                       exact ⟨i + 1, by omega, by go_num, hrelS, (hwr.alloc (by omega) _).trans (hb3.mono (by simp; omega)), by have := hb3.size; simp at this; omega⟩)
                  case measure => simp [RowKit.intOf]; omega
                · rw [Bool.not_eq_true] at hd
                  rw [hd] at hcall
                  have HD := hid hd
                  clear hd
                  go_wp2_with (go_at_call 54; refine hcall.mono ?_; clear hcall; rintro e w3 ⟨rfl, hb3⟩)
                  go_ret
                  exact ⟨bool_eq (by rw [HT.out]; exact (List.all_eq_false.2 ⟨_, HM.out, by rw [HD.out]; simp⟩).symm), (hwr.alloc (by omega) _).trans (hb3.mono (by simp; omega))⟩
              · obtain rfl : i = pl := by omega
                go_wp2
                go_ret
                exact ⟨bool_eq (by rw [HT.out]; exact (List.all_eq_true.2 fun p hp => HS.out p (by rw [← HPL.out, List.take_length]; exact hp)).symm), hwr⟩
          · have hmxx : (mx == 0) = false := by simpa using hmx
            have HF := hid (show rightB (N + 1) (.mk 4 [] Se.none ps 0 mx) = false by rw [HR.out, HN.out, decide_eq_false hmx]; simp)
            clear hmx
            go_enter Tryz.func54, Tryz.ntmps54
            go_wp2
            go_ret
            exact ⟨bool_eq HF.out.symm, (HB.out _ _)⟩
        · have hmnx : (mn == 0) = false := by simpa using hmn
          have HF := hid (show rightB (N + 1) (.mk 4 [] Se.none ps mn mx) = false by rw [HR.out, HN.out, decide_eq_false hmn]; simp)
          clear hmn
          go_enter Tryz.func54, Tryz.ntmps54
          go_wp2
          go_ret
          exact ⟨bool_eq HF.out.symm, (HB.out _ _)⟩
      · have hsx : (s.a == 0 && s.b == 0 && s.c == 0 && s.d == 0) = false := by have := hss; rw [Bool.not_eq_true] at this; exact this
        have HF := hid (show rightB (N + 1) (.mk 4 [] s ps mn mx) = false by rw [HR.out, HN.out, (by rw [Bool.not_eq_true] at hss; exact hss : noneB s = false)]; simp)
        clear hss
        go_enter Tryz.func54, Tryz.ntmps54
        go_wp2
        go_ret
        exact ⟨bool_eq HF.out.symm, (HB.out _ _)⟩
    · obtain ⟨hx1, hx2⟩ := str_none hxe
      have HF := hid (show rightB (N + 1) (.mk 4 x s ps mn mx) = false by rw [HR.out, HN.out, decide_eq_false hxe]; simp)
      clear hxe
      go_enter Tryz.func54, Tryz.ntmps54
      go_wp2
      go_ret
      exact ⟨bool_eq HF.out.symm, (HB.out _ _)⟩
  · have hnx : ¬ (2 : Int) ≤ (pl : Int) := by omega
    have HF := hid (show rightB (N + 1) (.mk 4 x s ps mn mx) = false by rw [HR.out, HN.out, decide_eq_false hn2]; simp)
    clear hn2
    go_enter Tryz.func54, Tryz.ntmps54
    go_wp2
    go_ret
    exact ⟨bool_eq HF.out.symm, (HB.out _ _)⟩
end Go.Proofs.YtfljcfdfgojdoaaGreatDoor.Sh
