/-
  parse.right as it is, kinds 5 to 8. (Printed by genRt.py.)
-/
import Derived.Test.YtfljcfdfgojdoaaGreatDoorFa19
namespace Go.Proofs.YtfljcfdfgojdoaaGreatDoor.Sh
open Go.RowKit Go.Lib Go.Proofs.YtfljcfdfgojdoaaGreatDoor
set_option maxRecDepth 100000 in
set_option maxHeartbeats 8000000 in
theorem right_k5 (N : Nat) (x : List B) (s : Se) (ps : List Re) (mn mx : Int) (hx6 : x.length ≤ 140737488351232) (ih : ∀ p ∈ ps, RightAt N p) : RightAt (N + 1) (.mk 5 x s ps mn mx) := by
  intro F cs w hFw h
  obtain ⟨ad, cap, rfl, hlen, hps⟩ := h.open
  have HR := hid (rightB_succ N 5 x s ps mn mx)
  have HN := hid (show nodeB 5 x s ps.length mn mx = (decide (2 ≤ ps.length) && (decide (x = []) && (noneB s && (decide (mn = 0) && decide (mx = 0))))) from rfl)
  have IH := hid ih
  have HPS := hid hps
  have HFW := hid hFw
  unfold maxLen at hlen
  clear h ih hps hFw
  generalize hpl : ps.length = pl at *
  have HPL := hid hpl
  clear hpl
  have e24 := eq24
  have n1 : Se.none.a = 0 := rfl
  have n2 : Se.none.b = 0 := rfl
  have n3 : Se.none.c = 0 := rfl
  have n4 : Se.none.d = 0 := rfl
  have HB := hid (show ∀ o1 o2 : Obj, Below w.heap.size w ((w.alloc o1).alloc o2) from fun o1 o2 => ((Below.refl _ w).alloc (Nat.le_refl _) _).alloc (by simp) _)
  by_cases hn2 : 2 ≤ pl
  · have hnx : (2 : Int) ≤ (pl : Int) := by omega
    by_cases hxe : x = []
    · subst hxe
      by_cases hss : noneB s = true
      · obtain rfl := noneB_eq hss
        by_cases hmn : mn = 0
        · subst hmn
          by_cases hmx : mx = 0
          · subst hmx
            have HT := hid (show rightB (N + 1) (.mk 5 [] Se.none ps 0 0) = ps.all (rightB N) by rw [HR.out, HN.out, decide_eq_true hn2]; rfl)
            clear hn2
            go_enter Tryz.func54, Tryz.ntmps54
            go_wp2
            go_loopw [91] (fun v wr => ∃ i : Nat, i ≤ pl ∧ v = .int .i64 i ∧ Hid (∀ p, p ∈ ps.take i → rightB N p = true) ∧ Below w.heap.size w wr ∧ w.heap.size + 2 ≤ wr.heap.size) (fun v _ => pl - (RowKit.intOf v).toNat)
            case atStart => exact ⟨0, Nat.zero_le _, rfl, by intro p hp; simp at hp, HB.out _ _, by simp⟩
            case round =>
              obtain ⟨i, hi, rfl, HS, hwr, hsz⟩ := hrel
              by_cases hlt' : i < pl
              · have hlt : i < ps.length := Nat.lt_of_lt_of_eq hlt' HPL.out.symm
                obtain ⟨g, off, rfl, hgF, hparts⟩ := HPS.out (by rintro rfl; simp at hlt)
                obtain ⟨k1, x1, s1, ad1, n1, cap1, mn1, mx1, hr1, hc⟩ := hparts.at (List.getElem?_eq_getElem hlt)
                have hgl := HFW.out g hgF
                have low : ∀ (o : Nat) {v : Value}, w.cell? ⟨g, o, none⟩ = some v → wr.cell? ⟨g, o, none⟩ = some v := fun o v h => (hwr.cell (p := ⟨g, o, none⟩) hgl).trans h
                have a0 : wr.cell? ⟨g, off + i * 9, none⟩ = _ := low _ (hc 0 _ rfl)
                have a1 := low _ (hc 1 _ rfl)
                have a2 := low _ (hc 2 _ rfl)
                have a3 := low _ (hc 3 _ rfl)
                have a4 := low _ (hc 4 _ rfl)
                have a5 := low _ (hc 5 _ rfl)
                have a6 := low _ (hc 6 _ rfl)
                have a7 := low _ (hc 7 _ rfl)
                have a8 := low _ (hc 8 _ rfl)
                have hgi : (i : Int) < (pl : Int) := by omega
                have hwa : Below w.heap.size w (wr.alloc (.cells (reC k1 x1 s1 (.slice ad1 n1 cap1) mn1 mx1) 33)) := hwr.alloc (by omega) _
                have hcall := IH.out ps[i] (List.getElem_mem hlt) F _ (wr.alloc (.cells (reC k1 x1 s1 (.slice ad1 n1 cap1) mn1 mx1) 33)) (fun g hg => by have := HFW.out g hg; simp; omega) (hr1.below HFW.out hwa)
                have HTS := hid (take_snoc hlt)
                have HM := hid (List.getElem_mem hlt)
                clear hparts hc low hr1 hwa
                by_cases hd : rightB N ps[i] = true
                · rw [hd] at hcall
                  have HD := hid hd
                  clear hd
                  go_wp2_with (go_at_call 54; refine hcall.mono ?_; clear hcall; rintro e w3 ⟨rfl, hb3⟩)
                  have hrelS := hid (show ∀ p, p ∈ ps.take (i + 1) → rightB N p = true from fun p hp => by
                    rw [HTS.out] at hp
                    rcases List.mem_append.1 hp with hp | hp
                    · exact HS.out p hp
                    · rw [List.mem_singleton.1 hp]; exact HD.out)
                  go_roundw
                  case rel => first
                    | exact ⟨i + 1, by omega, by go_num, hrelS, (hwr.alloc (by omega) _).trans (hb3.mono (by simp; omega)), by have := hb3.size; simp at this; omega⟩
                    | (repeat apply Exists.intro
                       refine And.intro ?_ rfl
                       exact ⟨i + 1, by omega, by go_num, hrelS, (hwr.alloc (by omega) _).trans (hb3.mono (by simp; omega)), by have := hb3.size; simp at this; omega⟩)
                  case measure => simp [RowKit.intOf]; omega
                · rw [Bool.not_eq_true] at hd
                  rw [hd] at hcall
                  have HD := hid hd
                  clear hd
                  go_wp2_with (go_at_call 54; refine hcall.mono ?_; clear hcall; rintro e w3 ⟨rfl, hb3⟩)
                  go_ret
                  exact ⟨bool_eq (by rw [HT.out]; exact (List.all_eq_false.2 ⟨_, HM.out, by rw [HD.out]; simp⟩).symm), (hwr.alloc (by omega) _).trans (hb3.mono (by simp; omega))⟩
              · obtain rfl : i = pl := by omega
                go_wp2
                go_ret
                exact ⟨bool_eq (by rw [HT.out]; exact (List.all_eq_true.2 fun p hp => HS.out p (by rw [← HPL.out, List.take_length]; exact hp)).symm), hwr⟩
          · have hmxx : (mx == 0) = false := by simpa using hmx
            have HF := hid (show rightB (N + 1) (.mk 5 [] Se.none ps 0 mx) = false by rw [HR.out, HN.out, decide_eq_false hmx]; simp)
            clear hmx
            go_enter Tryz.func54, Tryz.ntmps54
            go_wp2
            go_ret
            exact ⟨bool_eq HF.out.symm, (HB.out _ _)⟩
        · have hmnx : (mn == 0) = false := by simpa using hmn
          have HF := hid (show rightB (N + 1) (.mk 5 [] Se.none ps mn mx) = false by rw [HR.out, HN.out, decide_eq_false hmn]; simp)
          clear hmn
          go_enter Tryz.func54, Tryz.ntmps54
          go_wp2
          go_ret
          exact ⟨bool_eq HF.out.symm, (HB.out _ _)⟩
      · have hsx : (s.a == 0 && s.b == 0 && s.c == 0 && s.d == 0) = false := by have := hss; rw [Bool.not_eq_true] at this; exact this
        have HF := hid (show rightB (N + 1) (.mk 5 [] s ps mn mx) = false by rw [HR.out, HN.out, (by rw [Bool.not_eq_true] at hss; exact hss : noneB s = false)]; simp)
        clear hss
        go_enter Tryz.func54, Tryz.ntmps54
        go_wp2
        go_ret
        exact ⟨bool_eq HF.out.symm, (HB.out _ _)⟩
    · obtain ⟨hx1, hx2⟩ := str_none hxe
      have HF := hid (show rightB (N + 1) (.mk 5 x s ps mn mx) = false by rw [HR.out, HN.out, decide_eq_false hxe]; simp)
      clear hxe
      go_enter Tryz.func54, Tryz.ntmps54
      go_wp2
      go_ret
      exact ⟨bool_eq HF.out.symm, (HB.out _ _)⟩
  · have hnx : ¬ (2 : Int) ≤ (pl : Int) := by omega
    have HF := hid (show rightB (N + 1) (.mk 5 x s ps mn mx) = false by rw [HR.out, HN.out, decide_eq_false hn2]; simp)
    clear hn2
    go_enter Tryz.func54, Tryz.ntmps54
    go_wp2
    go_ret
    exact ⟨bool_eq HF.out.symm, (HB.out _ _)⟩
set_option maxRecDepth 100000 in
set_option maxHeartbeats 8000000 in
theorem right_k6 (N : Nat) (x : List B) (s : Se) (ps : List Re) (mn mx : Int) (hx6 : x.length ≤ 140737488351232) (ih : ∀ p ∈ ps, RightAt N p) : RightAt (N + 1) (.mk 6 x s ps mn mx) := by
  intro F cs w hFw h
  obtain ⟨ad, cap, rfl, hlen, hps⟩ := h.open
  have HR := hid (rightB_succ N 6 x s ps mn mx)
  have HN := hid (show nodeB 6 x s ps.length mn mx = (decide (2 ≤ ps.length) && (decide (x = []) && (noneB s && (decide (mn = 0) && decide (mx = 0))))) from rfl)
  have IH := hid ih
  have HPS := hid hps
  have HFW := hid hFw
  unfold maxLen at hlen
  clear h ih hps hFw
  generalize hpl : ps.length = pl at *
  have HPL := hid hpl
  clear hpl
  have e24 := eq24
  have n1 : Se.none.a = 0 := rfl
  have n2 : Se.none.b = 0 := rfl
  have n3 : Se.none.c = 0 := rfl
  have n4 : Se.none.d = 0 := rfl
  have HB := hid (show ∀ o1 o2 : Obj, Below w.heap.size w ((w.alloc o1).alloc o2) from fun o1 o2 => ((Below.refl _ w).alloc (Nat.le_refl _) _).alloc (by simp) _)
  by_cases hn2 : 2 ≤ pl
  · have hnx : (2 : Int) ≤ (pl : Int) := by omega
    by_cases hxe : x = []
    · subst hxe
      by_cases hss : noneB s = true
      · obtain rfl := noneB_eq hss
        by_cases hmn : mn = 0
        · subst hmn
          by_cases hmx : mx = 0
          · subst hmx
            have HT := hid (show rightB (N + 1) (.mk 6 [] Se.none ps 0 0) = ps.all (rightB N) by rw [HR.out, HN.out, decide_eq_true hn2]; rfl)
            clear hn2
            go_enter Tryz.func54, Tryz.ntmps54
            go_wp2
            go_loopw [91] (fun v wr => ∃ i : Nat, i ≤ pl ∧ v = .int .i64 i ∧ Hid (∀ p, p ∈ ps.take i → rightB N p = true) ∧ Below w.heap.size w wr ∧ w.heap.size + 2 ≤ wr.heap.size) (fun v _ => pl - (RowKit.intOf v).toNat)
            case atStart => exact ⟨0, Nat.zero_le _, rfl, by intro p hp; simp at hp, HB.out _ _, by simp⟩
            case round =>
              obtain ⟨i, hi, rfl, HS, hwr, hsz⟩ := hrel
              by_cases hlt' : i < pl
              · have hlt : i < ps.length := Nat.lt_of_lt_of_eq hlt' HPL.out.symm
                obtain ⟨g, off, rfl, hgF, hparts⟩ := HPS.out (by rintro rfl; simp at hlt)
                obtain ⟨k1, x1, s1, ad1, n1, cap1, mn1, mx1, hr1, hc⟩ := hparts.at (List.getElem?_eq_getElem hlt)
                have hgl := HFW.out g hgF
                have low : ∀ (o : Nat) {v : Value}, w.cell? ⟨g, o, none⟩ = some v → wr.cell? ⟨g, o, none⟩ = some v := fun o v h => (hwr.cell (p := ⟨g, o, none⟩) hgl).trans h
                have a0 : wr.cell? ⟨g, off + i * 9, none⟩ = _ := low _ (hc 0 _ rfl)
                have a1 := low _ (hc 1 _ rfl)
                have a2 := low _ (hc 2 _ rfl)
                have a3 := low _ (hc 3 _ rfl)
                have a4 := low _ (hc 4 _ rfl)
                have a5 := low _ (hc 5 _ rfl)
                have a6 := low _ (hc 6 _ rfl)
                have a7 := low _ (hc 7 _ rfl)
                have a8 := low _ (hc 8 _ rfl)
                have hgi : (i : Int) < (pl : Int) := by omega
                have hwa : Below w.heap.size w (wr.alloc (.cells (reC k1 x1 s1 (.slice ad1 n1 cap1) mn1 mx1) 33)) := hwr.alloc (by omega) _
                have hcall := IH.out ps[i] (List.getElem_mem hlt) F _ (wr.alloc (.cells (reC k1 x1 s1 (.slice ad1 n1 cap1) mn1 mx1) 33)) (fun g hg => by have := HFW.out g hg; simp; omega) (hr1.below HFW.out hwa)
                have HTS := hid (take_snoc hlt)
                have HM := hid (List.getElem_mem hlt)
                clear hparts hc low hr1 hwa
                by_cases hd : rightB N ps[i] = true
                · rw [hd] at hcall
                  have HD := hid hd
                  clear hd
                  go_wp2_with (go_at_call 54; refine hcall.mono ?_; clear hcall; rintro e w3 ⟨rfl, hb3⟩)
                  have hrelS := hid (show ∀ p, p ∈ ps.take (i + 1) → rightB N p = true from fun p hp => by
                    rw [HTS.out] at hp
                    rcases List.mem_append.1 hp with hp | hp
                    · exact HS.out p hp
                    · rw [List.mem_singleton.1 hp]; exact HD.out)
                  go_roundw
                  case rel => first
                    | exact ⟨i + 1, by omega, by go_num, hrelS, (hwr.alloc (by omega) _).trans (hb3.mono (by simp; omega)), by have := hb3.size; simp at this; omega⟩
                    | (repeat apply Exists.intro
                       refine And.intro ?_ rfl
                       exact ⟨i + 1, by omega, by go_num, hrelS, (hwr.alloc (by omega) _).trans (hb3.mono (by simp; omega)), by have := hb3.size; simp at this; omega⟩)
                  case measure => simp [RowKit.intOf]; omega
                · rw [Bool.not_eq_true] at hd
                  rw [hd] at hcall
                  have HD := hid hd
                  clear hd
                  go_wp2_with (go_at_call 54; refine hcall.mono ?_; clear hcall; rintro e w3 ⟨rfl, hb3⟩)
                  go_ret
                  exact ⟨bool_eq (by rw [HT.out]; exact (List.all_eq_false.2 ⟨_, HM.out, by rw [HD.out]; simp⟩).symm), (hwr.alloc (by omega) _).trans (hb3.mono (by simp; omega))⟩
              · obtain rfl : i = pl := by omega
                go_wp2
                go_ret
                exact ⟨bool_eq (by rw [HT.out]; exact (List.all_eq_true.2 fun p hp => HS.out p (by rw [← HPL.out, List.take_length]; exact hp)).symm), hwr⟩
          · have hmxx : (mx == 0) = false := by simpa using hmx
            have HF := hid (show rightB (N + 1) (.mk 6 [] Se.none ps 0 mx) = false by rw [HR.out, HN.out, decide_eq_false hmx]; simp)
            clear hmx
            go_enter Tryz.func54, Tryz.ntmps54
            go_wp2
            go_ret
            exact ⟨bool_eq HF.out.symm, (HB.out _ _)⟩
        · have hmnx : (mn == 0) = false := by simpa using hmn
          have HF := hid (show rightB (N + 1) (.mk 6 [] Se.none ps mn mx) = false by rw [HR.out, HN.out, decide_eq_false hmn]; simp)
          clear hmn
          go_enter Tryz.func54, Tryz.ntmps54
          go_wp2
          go_ret
          exact ⟨bool_eq HF.out.symm, (HB.out _ _)⟩
      · have hsx : (s.a == 0 && s.b == 0 && s.c == 0 && s.d == 0) = false := by have := hss; rw [Bool.not_eq_true] at this; exact this
        have HF := hid (show rightB (N + 1) (.mk 6 [] s ps mn mx) = false by rw [HR.out, HN.out, (by rw [Bool.not_eq_true] at hss; exact hss : noneB s = false)]; simp)
        clear hss
        go_enter Tryz.func54, Tryz.ntmps54
        go_wp2
        go_ret
        exact ⟨bool_eq HF.out.symm, (HB.out _ _)⟩
    · obtain ⟨hx1, hx2⟩ := str_none hxe
      have HF := hid (show rightB (N + 1) (.mk 6 x s ps mn mx) = false by rw [HR.out, HN.out, decide_eq_false hxe]; simp)
      clear hxe
      go_enter Tryz.func54, Tryz.ntmps54
      go_wp2
      go_ret
      exact ⟨bool_eq HF.out.symm, (HB.out _ _)⟩
  · have hnx : ¬ (2 : Int) ≤ (pl : Int) := by omega
    have HF := hid (show rightB (N + 1) (.mk 6 x s ps mn mx) = false by rw [HR.out, HN.out, decide_eq_false hn2]; simp)
    clear hn2
    go_enter Tryz.func54, Tryz.ntmps54
    go_wp2
    go_ret
    exact ⟨bool_eq HF.out.symm, (HB.out _ _)⟩
set_option maxRecDepth 100000 in
set_option maxHeartbeats 8000000 in
theorem right_k7 (N : Nat) (x : List B) (s : Se) (ps : List Re) (mn mx : Int) (hx6 : x.length ≤ 140737488351232) (ih : ∀ p ∈ ps, RightAt N p) : RightAt (N + 1) (.mk 7 x s ps mn mx) := by
  intro F cs w hFw h
  obtain ⟨ad, cap, rfl, hlen, hps⟩ := h.open
  have HR := hid (rightB_succ N 7 x s ps mn mx)
  have HN := hid (show nodeB 7 x s ps.length mn mx = (decide (ps.length = 1) && (decide (x = []) && (noneB s && (decide (mn = 0) && decide (mx = 0))))) from rfl)
  have IH := hid ih
  have HPS := hid hps
  have HFW := hid hFw
  unfold maxLen at hlen
  clear h ih hps hFw
  generalize hpl : ps.length = pl at *
  have HPL := hid hpl
  clear hpl
  have e24 := eq24
  have n1 : Se.none.a = 0 := rfl
  have n2 : Se.none.b = 0 := rfl
  have n3 : Se.none.c = 0 := rfl
  have n4 : Se.none.d = 0 := rfl
  have HB := hid (show ∀ o1 o2 : Obj, Below w.heap.size w ((w.alloc o1).alloc o2) from fun o1 o2 => ((Below.refl _ w).alloc (Nat.le_refl _) _).alloc (by simp) _)
  by_cases hn1 : pl = 1
  · have hnx : ((pl : Int) == 1) = true := by simp [hn1]
    by_cases hxe : x = []
    · subst hxe
      by_cases hss : noneB s = true
      · obtain rfl := noneB_eq hss
        by_cases hmn : mn = 0
        · subst hmn
          by_cases hmx : mx = 0
          · subst hmx
            have HT := hid (show rightB (N + 1) (.mk 7 [] Se.none ps 0 0) = ps.all (rightB N) by rw [HR.out, HN.out, decide_eq_true hn1]; rfl)
            clear hn1
            go_enter Tryz.func54, Tryz.ntmps54
            go_wp2
            go_loopw [91] (fun v wr => ∃ i : Nat, i ≤ pl ∧ v = .int .i64 i ∧ Hid (∀ p, p ∈ ps.take i → rightB N p = true) ∧ Below w.heap.size w wr ∧ w.heap.size + 2 ≤ wr.heap.size) (fun v _ => pl - (RowKit.intOf v).toNat)
            case atStart => exact ⟨0, Nat.zero_le _, rfl, by intro p hp; simp at hp, HB.out _ _, by simp⟩
            case round =>
              obtain ⟨i, hi, rfl, HS, hwr, hsz⟩ := hrel
              by_cases hlt' : i < pl
              · have hlt : i < ps.length := Nat.lt_of_lt_of_eq hlt' HPL.out.symm
                obtain ⟨g, off, rfl, hgF, hparts⟩ := HPS.out (by rintro rfl; simp at hlt)
                obtain ⟨k1, x1, s1, ad1, n1, cap1, mn1, mx1, hr1, hc⟩ := hparts.at (List.getElem?_eq_getElem hlt)
                have hgl := HFW.out g hgF
                have low : ∀ (o : Nat) {v : Value}, w.cell? ⟨g, o, none⟩ = some v → wr.cell? ⟨g, o, none⟩ = some v := fun o v h => (hwr.cell (p := ⟨g, o, none⟩) hgl).trans h
                have a0 : wr.cell? ⟨g, off + i * 9, none⟩ = _ := low _ (hc 0 _ rfl)
                have a1 := low _ (hc 1 _ rfl)
                have a2 := low _ (hc 2 _ rfl)
                have a3 := low _ (hc 3 _ rfl)
                have a4 := low _ (hc 4 _ rfl)
                have a5 := low _ (hc 5 _ rfl)
                have a6 := low _ (hc 6 _ rfl)
                have a7 := low _ (hc 7 _ rfl)
                have a8 := low _ (hc 8 _ rfl)
                have hgi : (i : Int) < (pl : Int) := by omega
                have hwa : Below w.heap.size w (wr.alloc (.cells (reC k1 x1 s1 (.slice ad1 n1 cap1) mn1 mx1) 33)) := hwr.alloc (by omega) _
                have hcall := IH.out ps[i] (List.getElem_mem hlt) F _ (wr.alloc (.cells (reC k1 x1 s1 (.slice ad1 n1 cap1) mn1 mx1) 33)) (fun g hg => by have := HFW.out g hg; simp; omega) (hr1.below HFW.out hwa)
                have HTS := hid (take_snoc hlt)
                have HM := hid (List.getElem_mem hlt)
                clear hparts hc low hr1 hwa
                by_cases hd : rightB N ps[i] = true
                · rw [hd] at hcall
                  have HD := hid hd
                  clear hd
                  go_wp2_with (go_at_call 54; refine hcall.mono ?_; clear hcall; rintro e w3 ⟨rfl, hb3⟩)
                  have hrelS := hid (show ∀ p, p ∈ ps.take (i + 1) → rightB N p = true from fun p hp => by
                    rw [HTS.out] at hp
                    rcases List.mem_append.1 hp with hp | hp
                    · exact HS.out p hp
                    · rw [List.mem_singleton.1 hp]; exact HD.out)
                  go_roundw
                  case rel => first
                    | exact ⟨i + 1, by omega, by go_num, hrelS, (hwr.alloc (by omega) _).trans (hb3.mono (by simp; omega)), by have := hb3.size; simp at this; omega⟩
                    | (repeat apply Exists.intro
                       refine And.intro ?_ rfl
                       exact ⟨i + 1, by omega, by go_num, hrelS, (hwr.alloc (by omega) _).trans (hb3.mono (by simp; omega)), by have := hb3.size; simp at this; omega⟩)
                  case measure => simp [RowKit.intOf]; omega
                · rw [Bool.not_eq_true] at hd
                  rw [hd] at hcall
                  have HD := hid hd
                  clear hd
                  go_wp2_with (go_at_call 54; refine hcall.mono ?_; clear hcall; rintro e w3 ⟨rfl, hb3⟩)
                  go_ret
                  exact ⟨bool_eq (by rw [HT.out]; exact (List.all_eq_false.2 ⟨_, HM.out, by rw [HD.out]; simp⟩).symm), (hwr.alloc (by omega) _).trans (hb3.mono (by simp; omega))⟩
              · obtain rfl : i = pl := by omega
                go_wp2
                go_ret
                exact ⟨bool_eq (by rw [HT.out]; exact (List.all_eq_true.2 fun p hp => HS.out p (by rw [← HPL.out, List.take_length]; exact hp)).symm), hwr⟩
          · have hmxx : (mx == 0) = false := by simpa using hmx
            have HF := hid (show rightB (N + 1) (.mk 7 [] Se.none ps 0 mx) = false by rw [HR.out, HN.out, decide_eq_false hmx]; simp)
            clear hmx
            go_enter Tryz.func54, Tryz.ntmps54
            go_wp2
            go_ret
            exact ⟨bool_eq HF.out.symm, (HB.out _ _)⟩
        · have hmnx : (mn == 0) = false := by simpa using hmn
          have HF := hid (show rightB (N + 1) (.mk 7 [] Se.none ps mn mx) = false by rw [HR.out, HN.out, decide_eq_false hmn]; simp)
          clear hmn
          go_enter Tryz.func54, Tryz.ntmps54
          go_wp2
          go_ret
          exact ⟨bool_eq HF.out.symm, (HB.out _ _)⟩
      · have hsx : (s.a == 0 && s.b == 0 && s.c == 0 && s.d == 0) = false := by have := hss; rw [Bool.not_eq_true] at this; exact this
        have HF := hid (show rightB (N + 1) (.mk 7 [] s ps mn mx) = false by rw [HR.out, HN.out, (by rw [Bool.not_eq_true] at hss; exact hss : noneB s = false)]; simp)
        clear hss
        go_enter Tryz.func54, Tryz.ntmps54
        go_wp2
        go_ret
        exact ⟨bool_eq HF.out.symm, (HB.out _ _)⟩
    · obtain ⟨hx1, hx2⟩ := str_none hxe
      have HF := hid (show rightB (N + 1) (.mk 7 x s ps mn mx) = false by rw [HR.out, HN.out, decide_eq_false hxe]; simp)
      clear hxe
      go_enter Tryz.func54, Tryz.ntmps54
      go_wp2
      go_ret
      exact ⟨bool_eq HF.out.symm, (HB.out _ _)⟩
  · have hnx : ((pl : Int) == 1) = false := by rw [beq_eq_false_iff_ne]; omega
    have HF := hid (show rightB (N + 1) (.mk 7 x s ps mn mx) = false by rw [HR.out, HN.out, decide_eq_false hn1]; simp)
    clear hn1
    go_enter Tryz.func54, Tryz.ntmps54
    go_wp2
    go_ret
    exact ⟨bool_eq HF.out.symm, (HB.out _ _)⟩
set_option maxRecDepth 100000 in
set_option maxHeartbeats 8000000 in
theorem right_k8 (N : Nat) (x : List B) (s : Se) (ps : List Re) (mn mx : Int) (hx6 : x.length ≤ 140737488351232) (ih : ∀ p ∈ ps, RightAt N p) : RightAt (N + 1) (.mk 8 x s ps mn mx) := by
  intro F cs w hFw h
  obtain ⟨ad, cap, rfl, hlen, hps⟩ := h.open
  have HR := hid (rightB_succ N 8 x s ps mn mx)
  have HN := hid (show nodeB 8 x s ps.length mn mx = (decide (ps.length = 1) && (oftB mn mx && (decide (x = []) && noneB s))) from rfl)
  have IH := hid ih
  have HPS := hid hps
  have HFW := hid hFw
  unfold maxLen at hlen
  clear h ih hps hFw
  generalize hpl : ps.length = pl at *
  have HPL := hid hpl
  clear hpl
  have e24 := eq24
  have n1 : Se.none.a = 0 := rfl
  have n2 : Se.none.b = 0 := rfl
  have n3 : Se.none.c = 0 := rfl
  have n4 : Se.none.d = 0 := rfl
  have HB := hid (show ∀ o1 o2 : Obj, Below w.heap.size w ((w.alloc o1).alloc o2) from fun o1 o2 => ((Below.refl _ w).alloc (Nat.le_refl _) _).alloc (by simp) _)
  by_cases hn1 : pl = 1
  · have hnx : ((pl : Int) == 1) = true := by simp [hn1]
    by_cases hof : oftB mn mx = true
    ·
      by_cases hxe : x = []
      · subst hxe
        by_cases hss : noneB s = true
        · obtain rfl := noneB_eq hss
          have HT := hid (show rightB (N + 1) (.mk 8 [] Se.none ps mn mx) = ps.all (rightB N) by rw [HR.out, HN.out, decide_eq_true hn1, hof]; rfl)
          clear hn1
          go_enter Tryz.func54, Tryz.ntmps54
          go_wp2_with (go_at_call 111; refine (mayOft_any mn mx _).mono ?_; rintro e w2 ⟨rfl, rfl⟩; rw [hof])
          go_loopw [91] (fun v wr => ∃ i : Nat, i ≤ pl ∧ v = .int .i64 i ∧ Hid (∀ p, p ∈ ps.take i → rightB N p = true) ∧ Below w.heap.size w wr ∧ w.heap.size + 2 ≤ wr.heap.size) (fun v _ => pl - (RowKit.intOf v).toNat)
          case atStart => exact ⟨0, Nat.zero_le _, rfl, by intro p hp; simp at hp, HB.out _ _, by simp⟩
          case round =>
            obtain ⟨i, hi, rfl, HS, hwr, hsz⟩ := hrel
            by_cases hlt' : i < pl
            · have hlt : i < ps.length := Nat.lt_of_lt_of_eq hlt' HPL.out.symm
              obtain ⟨g, off, rfl, hgF, hparts⟩ := HPS.out (by rintro rfl; simp at hlt)
              obtain ⟨k1, x1, s1, ad1, n1, cap1, mn1, mx1, hr1, hc⟩ := hparts.at (List.getElem?_eq_getElem hlt)
              have hgl := HFW.out g hgF
              have low : ∀ (o : Nat) {v : Value}, w.cell? ⟨g, o, none⟩ = some v → wr.cell? ⟨g, o, none⟩ = some v := fun o v h => (hwr.cell (p := ⟨g, o, none⟩) hgl).trans h
              have a0 : wr.cell? ⟨g, off + i * 9, none⟩ = _ := low _ (hc 0 _ rfl)
              have a1 := low _ (hc 1 _ rfl)
              have a2 := low _ (hc 2 _ rfl)
              have a3 := low _ (hc 3 _ rfl)
              have a4 := low _ (hc 4 _ rfl)
              have a5 := low _ (hc 5 _ rfl)
              have a6 := low _ (hc 6 _ rfl)
              have a7 := low _ (hc 7 _ rfl)
              have a8 := low _ (hc 8 _ rfl)
              have hgi : (i : Int) < (pl : Int) := by omega
              have hwa : Below w.heap.size w (wr.alloc (.cells (reC k1 x1 s1 (.slice ad1 n1 cap1) mn1 mx1) 33)) := hwr.alloc (by omega) _
              have hcall := IH.out ps[i] (List.getElem_mem hlt) F _ (wr.alloc (.cells (reC k1 x1 s1 (.slice ad1 n1 cap1) mn1 mx1) 33)) (fun g hg => by have := HFW.out g hg; simp; omega) (hr1.below HFW.out hwa)
              have HTS := hid (take_snoc hlt)
              have HM := hid (List.getElem_mem hlt)
              clear hparts hc low hr1 hwa
              by_cases hd : rightB N ps[i] = true
              · rw [hd] at hcall
                have HD := hid hd
                clear hd
                go_wp2_with (go_at_call 54; refine hcall.mono ?_; clear hcall; rintro e w3 ⟨rfl, hb3⟩)
                have hrelS := hid (show ∀ p, p ∈ ps.take (i + 1) → rightB N p = true from fun p hp => by
                  rw [HTS.out] at hp
                  rcases List.mem_append.1 hp with hp | hp
                  · exact HS.out p hp
                  · rw [List.mem_singleton.1 hp]; exact HD.out)
                go_roundw
                case rel => first
                  | exact ⟨i + 1, by omega, by go_num, hrelS, (hwr.alloc (by omega) _).trans (hb3.mono (by simp; omega)), by have := hb3.size; simp at this; omega⟩
                  | (repeat apply Exists.intro
                     refine And.intro ?_ rfl
                     exact ⟨i + 1, by omega, by go_num, hrelS, (hwr.alloc (by omega) _).trans (hb3.mono (by simp; omega)), by have := hb3.size; simp at this; omega⟩)
                case measure => simp [RowKit.intOf]; omega
              · rw [Bool.not_eq_true] at hd
                rw [hd] at hcall
                have HD := hid hd
                clear hd
                go_wp2_with (go_at_call 54; refine hcall.mono ?_; clear hcall; rintro e w3 ⟨rfl, hb3⟩)
                go_ret
                exact ⟨bool_eq (by rw [HT.out]; exact (List.all_eq_false.2 ⟨_, HM.out, by rw [HD.out]; simp⟩).symm), (hwr.alloc (by omega) _).trans (hb3.mono (by simp; omega))⟩
            · obtain rfl : i = pl := by omega
              go_wp2
              go_ret
              exact ⟨bool_eq (by rw [HT.out]; exact (List.all_eq_true.2 fun p hp => HS.out p (by rw [← HPL.out, List.take_length]; exact hp)).symm), hwr⟩
        · have hsx : (s.a == 0 && s.b == 0 && s.c == 0 && s.d == 0) = false := by have := hss; rw [Bool.not_eq_true] at this; exact this
          have HF := hid (show rightB (N + 1) (.mk 8 [] s ps mn mx) = false by rw [HR.out, HN.out, (by rw [Bool.not_eq_true] at hss; exact hss : noneB s = false)]; simp)
          clear hss
          go_enter Tryz.func54, Tryz.ntmps54
          go_wp2_with (go_at_call 111; refine (mayOft_any mn mx _).mono ?_; rintro e w2 ⟨rfl, rfl⟩; rw [hof])
          go_ret
          exact ⟨bool_eq HF.out.symm, (HB.out _ _)⟩
      · obtain ⟨hx1, hx2⟩ := str_none hxe
        have HF := hid (show rightB (N + 1) (.mk 8 x s ps mn mx) = false by rw [HR.out, HN.out, decide_eq_false hxe]; simp)
        clear hxe
        go_enter Tryz.func54, Tryz.ntmps54
        go_wp2_with (go_at_call 111; refine (mayOft_any mn mx _).mono ?_; rintro e w2 ⟨rfl, rfl⟩; rw [hof])
        go_ret
        exact ⟨bool_eq HF.out.symm, (HB.out _ _)⟩
    · rw [Bool.not_eq_true] at hof
      have HF := hid (show rightB (N + 1) (.mk 8 x s ps mn mx) = false by rw [HR.out, HN.out, hof]; simp)
      go_enter Tryz.func54, Tryz.ntmps54
      go_wp2_with (go_at_call 111; refine (mayOft_any mn mx _).mono ?_; rintro e w2 ⟨rfl, rfl⟩; rw [hof])
      go_ret
      exact ⟨bool_eq HF.out.symm, (HB.out _ _)⟩
  · have hnx : ((pl : Int) == 1) = false := by rw [beq_eq_false_iff_ne]; omega
    have HF := hid (show rightB (N + 1) (.mk 8 x s ps mn mx) = false by rw [HR.out, HN.out, decide_eq_false hn1]; simp)
    clear hn1
    go_enter Tryz.func54, Tryz.ntmps54
    go_wp2_with (go_at_call 111; refine (mayOft_any mn mx _).mono ?_; rintro e w2 ⟨rfl, rfl⟩; rw [hof])
    go_ret
    exact ⟨bool_eq HF.out.symm, (HB.out _ _)⟩
end Go.Proofs.YtfljcfdfgojdoaaGreatDoor.Sh
