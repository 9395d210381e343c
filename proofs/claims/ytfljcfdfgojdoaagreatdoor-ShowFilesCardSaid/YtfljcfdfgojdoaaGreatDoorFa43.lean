/-
  The reference's RightItem. (Printed by genIq.py.)
-/
import Derived.Test.YtfljcfdfgojdoaaGreatDoorFa42
import Derived.Test.YtfljcfdfgojdoaaGreatDoorFa26
import Derived.Test.YtfljcfdfgojdoaaGreatDoorFa28
import Derived.Deep.DeepCutAuto
import Derived.Deep.CutBlock
namespace Go.Proofs.YtfljcfdfgojdoaaGreatDoor.Sh.Rf
open Go.RowKit Go.Lib Go.Proofs.YtfljcfdfgojdoaaGreatDoor Go.Proofs.YtfljcfdfgojdoaaGreatDoor.Sh

def nrB (o b : List B) (ar zl zq : Bool) : Bool := decide (o = []) && (decide (b = []) && (!ar && (zl && zq)))
def sdB (ar : Bool) (cl cq : Int) : Bool := ar && (cl == 0 && cq == 0)
def brB (ar zl zq : Bool) : Bool := !ar && (zl && zq)
def toB (o b : List B) (bb : Bool) : Bool := (decide (b = []) && decide (o.length ≤ 256)) || (bb && decide (o = []))
def riB (k : Int) (nm : List B) (bn zr zm mr : Bool) (cr : Int) (nr sd br to' : Bool) : Bool :=
  if k = 1 ∨ k = 4 then (bn && cr == 0) && (zm && nr)
  else if k = 2 then (bn && zr) && (mr && nr)
  else if k = 3 then (decide (nm = []) && cr == 0) && (zm && (to' && (sd || br)))
  else false
theorem riB_14 {k : Int} (h : k = 1 ∨ k = 4) (nm : List B) (bn zr zm mr : Bool) (cr : Int) (nr sd br to' : Bool) : riB k nm bn zr zm mr cr nr sd br to' = ((bn && cr == 0) && (zm && nr)) := by unfold riB; rw [if_pos h]
theorem riB_2 (nm : List B) (bn zr zm mr : Bool) (cr : Int) (nr sd br to' : Bool) : riB 2 nm bn zr zm mr cr nr sd br to' = ((bn && zr) && (mr && nr)) := by unfold riB; rw [if_neg (by omega), if_pos rfl]
theorem riB_3 (nm : List B) (bn zr zm mr : Bool) (cr : Int) (nr sd br to' : Bool) : riB 3 nm bn zr zm mr cr nr sd br to' = ((decide (nm = []) && cr == 0) && (zm && (to' && (sd || br)))) := by unfold riB; rw [if_neg (by omega), if_neg (by omega), if_pos rfl]
theorem riB_no {k : Int} (h1 : ¬ k = 1) (h2 : ¬ k = 2) (h3 : ¬ k = 3) (h4 : ¬ k = 4) (nm : List B) (bn zr zm mr : Bool) (cr : Int) (nr sd br to' : Bool) : riB k nm bn zr zm mr cr nr sd br to' = false := by unfold riB; rw [if_neg (by omega), if_neg h2, if_neg h3]
theorem none_range {w : World} {g : Nat} (h : w.heap[g]? = some (.cells reZ 33 (0, 0))) : w.rangeAt g 0 reZ.toList := by
  have h1 := World.rangeAt_of_block h 0 9
  rw [show reZ.extract 0 (0 + 9) = reZ from by kernel_rfl] at h1
  exact h1
set_option maxRecDepth 100000 in
set_option maxHeartbeats 8000000 in
theorem ritem_gen {w : World} {k : Int} {nm : List B} {r : Rw} {m : Mw} {o b : List B} {ar : Bool} {l q : Rw} (bn bb zr zl zq zm mr : Bool) (cr cl cq : Int) (hol : o.length ≤ 140737488351232)
    (h1 : ∀ W : World, Below w.heap.size w W → Calls Tryz.prog 88 #[.string ⟨nm.toArray⟩] W fun e w' => e = .returned (.bool bn) ∧ Below W.heap.size W w')
    (h2 : ∀ W : World, Below w.heap.size w W → Calls Tryz.prog 88 #[.string ⟨b.toArray⟩] W fun e w' => e = .returned (.bool bb) ∧ Below W.heap.size W w')
    (h3 : ∀ W : World, Below w.heap.size w W → Calls Tryz.prog 71 #[.agg r.cs] W fun e w' => e = .returned (.int .i64 cr) ∧ Below W.heap.size W w')
    (h4 : ∀ W : World, Below w.heap.size w W → Calls Tryz.prog 71 #[.agg l.cs] W fun e w' => e = .returned (.int .i64 cl) ∧ Below W.heap.size W w')
    (h5 : ∀ W : World, Below w.heap.size w W → Calls Tryz.prog 71 #[.agg q.cs] W fun e w' => e = .returned (.int .i64 cq) ∧ Below W.heap.size W w')
    (h6 : ∀ W : World, Below w.heap.size w W → Calls Tryz.prog 19 #[.agg r.cs, .agg reZ] W fun e w' => e = .returned (.bool zr) ∧ Below W.heap.size W w')
    (h7 : ∀ W : World, Below w.heap.size w W → Calls Tryz.prog 19 #[.agg l.cs, .agg reZ] W fun e w' => e = .returned (.bool zl) ∧ Below W.heap.size W w')
    (h8 : ∀ W : World, Below w.heap.size w W → Calls Tryz.prog 19 #[.agg q.cs, .agg reZ] W fun e w' => e = .returned (.bool zq) ∧ Below W.heap.size W w')
    (h9 : ∀ W : World, Below w.heap.size w W → Calls Tryz.prog 23 #[.agg m.cs, .agg mpZ] W fun e w' => e = .returned (.bool zm) ∧ Below W.heap.size W w')
    (h10 : ∀ W : World, Below w.heap.size w W → Calls Tryz.prog 89 #[.agg m.cs] W fun e w' => e = .returned (.bool mr) ∧ Below W.heap.size W w') :
    Calls Tryz.prog 42 #[.agg (itC k nm r m o b ar l q)] w fun e w' => e = .returned (.bool (riB k nm bn zr zm mr cr (nrB o b ar zl zq) (sdB ar cl cq) (brB ar zl zq) (toB o b bb))) ∧ Below w.heap.size w w' := by
  obtain ⟨nr, hnr⟩ : ∃ x, x = nrB o b ar zl zq := ⟨_, rfl⟩
  obtain ⟨sd, hsd⟩ : ∃ x, x = sdB ar cl cq := ⟨_, rfl⟩
  obtain ⟨br, hbr⟩ : ∃ x, x = brB ar zl zq := ⟨_, rfl⟩
  obtain ⟨to1, hto⟩ : ∃ x, x = toB o b bb := ⟨_, rfl⟩
  rw [← hnr, ← hsd, ← hbr, ← hto]
  have HNR := hid hnr
  have HSD := hid hsd
  have HBR := hid hbr
  have HTO := hid hto
  clear hnr hsd hbr hto
  have H1 := hid h1
  have H2 := hid h2
  have H3 := hid h3
  have H4 := hid h4
  have H5 := hid h5
  have H6 := hid h6
  have H7 := hid h7
  have H8 := hid h8
  have H9 := hid h9
  have H10 := hid h10
  clear h1 h2 h3 h4 h5 h6 h7 h8 h9 h10
  have HX := hid (show ((w.alloc (.cells (itC k nm r m o b ar l q) 65)).alloc (.cells reZ 33)).heap[w.heap.size]? = some (.cells (itC k nm r m o b ar l q) 65 (0, 0)) from heap_alloc2_old _ _ _)
  have HN := hid (show ((w.alloc (.cells (itC k nm r m o b ar l q) 65)).alloc (.cells reZ 33)).heap[w.heap.size + 1]? = some (.cells reZ 33 (0, 0)) from heap_alloc2_new _ _ _)
  have HL := hid (show Below w.heap.size w ((w.alloc (.cells (itC k nm r m o b ar l q) 65)).alloc (.cells reZ 33)) from ((Below.refl _ w).alloc (Nat.le_refl _) _).alloc (by simp) _)
  go_enter Tryz.func42, Tryz.ntmps42
  go_upto_region 2 with (refine wpList_store_newN rfl 33 (.tmp 3) (.tmp 9) rfl 9 info27 33 reZ rfl reZ (w.heap.size + 1) (by simp) rfl rfl rfl rfl ?_)
  generalize (w.alloc (.cells (itC k nm r m o b ar l q) 65)).alloc (.cells reZ 33) = W2 at *
  obtain ⟨k0, k1, k25, k26, k27⟩ := it_heads HX.out
  go_upto_region 3 with (first | (with_reducible (show wpList _ _ _ (⟨some 11, Op.load 36 (Operand.tmp 10), _, _, _, _⟩ :: _) _ _); refine wpList_load_part 36 (.tmp 10) rfl (by kernel_rfl) w.heap.size 11 rfl m.cs _ (it_ranges HX.out).2.1 Tryz.underlying36 rfl 14 info44 rfl ?_) | (go_at_call 23; refine (H9.out _ HL.out).mono ?_; rintro e W ⟨rfl, hb⟩; replace HL := hid (HL.out.trans (hb.mono HL.out.size)); replace HN := hid ((hb.block _ (lt_of_heap HN.out)).trans HN.out); replace HX := hid ((hb.block _ (lt_of_heap HX.out)).trans HX.out); clear hb k0 k1 k25 k26 k27; obtain ⟨k0, k1, k25, k26, k27⟩ := it_heads HX.out))
  go_cut [5] (fun v W => v = .bool (nr) ∧ W.heap[w.heap.size]? = some (.cells (itC k nm r m o b ar l q) 65 (0, 0)) ∧ W.heap[w.heap.size + 1]? = some (.cells reZ 33 (0, 0)) ∧ Below w.heap.size w W)
  case first =>
    by_cases ho : o = []
    · subst ho
      by_cases hb : b = []
      · subst hb
        rcases ar with _ | _
        · skip
          rcases zl with _ | _
          · skip
            have tok1 : True := trivial
            go_wp2_with (first | (with_reducible (show wpList _ _ _ (⟨some 29, Op.load 33 (Operand.tmp 28), _, _, _, _⟩ :: _) _ _); refine wpList_load_part 33 (.tmp 28) rfl (by kernel_rfl) w.heap.size 28 rfl l.cs _ (it_ranges HX.out).2.2.1 Tryz.underlying33 rfl 9 info27 rfl ?_) | (with_reducible (show wpList _ _ _ (⟨some 30, Op.load 33 (Operand.tmp 3), _, _, _, _⟩ :: _) _ _); refine wpList_load_part 33 (.tmp 3) rfl (by kernel_rfl) (w.heap.size + 1) 0 rfl reZ _ (none_range HN.out) Tryz.underlying33 rfl 9 info27 rfl ?_) | (have _t := tok1; go_at_call 19; refine (H7.out _ HL.out).mono ?_; rintro e W ⟨rfl, hb⟩; replace HL := hid (HL.out.trans (hb.mono HL.out.size)); replace HN := hid ((hb.block _ (lt_of_heap HN.out)).trans HN.out); replace HX := hid ((hb.block _ (lt_of_heap HX.out)).trans HX.out); clear hb k0 k1 k25 k26 k27 _t tok1; obtain ⟨k0, k1, k25, k26, k27⟩ := it_heads HX.out))
            go_meet
            case rel => exact ⟨congrArg Value.bool (by rw [HNR.out]; simp [nrB]), HX.out, HN.out, HL.out⟩
          · skip
            have tok1 : True := trivial
            have tok2 : True := trivial
            go_wp2_with (first | (with_reducible (show wpList _ _ _ (⟨some 29, Op.load 33 (Operand.tmp 28), _, _, _, _⟩ :: _) _ _); refine wpList_load_part 33 (.tmp 28) rfl (by kernel_rfl) w.heap.size 28 rfl l.cs _ (it_ranges HX.out).2.2.1 Tryz.underlying33 rfl 9 info27 rfl ?_) | (with_reducible (show wpList _ _ _ (⟨some 30, Op.load 33 (Operand.tmp 3), _, _, _, _⟩ :: _) _ _); refine wpList_load_part 33 (.tmp 3) rfl (by kernel_rfl) (w.heap.size + 1) 0 rfl reZ _ (none_range HN.out) Tryz.underlying33 rfl 9 info27 rfl ?_) | (with_reducible (show wpList _ _ _ (⟨some 35, Op.load 33 (Operand.tmp 34), _, _, _, _⟩ :: _) _ _); refine wpList_load_part 33 (.tmp 34) rfl (by kernel_rfl) w.heap.size 37 rfl q.cs _ (it_ranges HX.out).2.2.2 Tryz.underlying33 rfl 9 info27 rfl ?_) | (with_reducible (show wpList _ _ _ (⟨some 36, Op.load 33 (Operand.tmp 3), _, _, _, _⟩ :: _) _ _); refine wpList_load_part 33 (.tmp 3) rfl (by kernel_rfl) (w.heap.size + 1) 0 rfl reZ _ (none_range HN.out) Tryz.underlying33 rfl 9 info27 rfl ?_) | (have _t := tok1; go_at_call 19; refine (H7.out _ HL.out).mono ?_; rintro e W ⟨rfl, hb⟩; replace HL := hid (HL.out.trans (hb.mono HL.out.size)); replace HN := hid ((hb.block _ (lt_of_heap HN.out)).trans HN.out); replace HX := hid ((hb.block _ (lt_of_heap HX.out)).trans HX.out); clear hb k0 k1 k25 k26 k27 _t tok1; obtain ⟨k0, k1, k25, k26, k27⟩ := it_heads HX.out) | (have _t := tok2; go_at_call 19; refine (H8.out _ HL.out).mono ?_; rintro e W ⟨rfl, hb⟩; replace HL := hid (HL.out.trans (hb.mono HL.out.size)); replace HN := hid ((hb.block _ (lt_of_heap HN.out)).trans HN.out); replace HX := hid ((hb.block _ (lt_of_heap HX.out)).trans HX.out); clear hb k0 k1 k25 k26 k27 _t tok2; obtain ⟨k0, k1, k25, k26, k27⟩ := it_heads HX.out))
            go_meet
            case rel => exact ⟨congrArg Value.bool (by rw [HNR.out]; simp [nrB]), HX.out, HN.out, HL.out⟩
        · skip
          go_wp2
          go_meet
          case rel => exact ⟨congrArg Value.bool (by rw [HNR.out]; simp [nrB]), HX.out, HN.out, HL.out⟩
      · obtain ⟨hx1, hx2⟩ := str_none hb
        go_wp2
        go_meet
        case rel => exact ⟨congrArg Value.bool (by rw [HNR.out]; simp [nrB, hb]), HX.out, HN.out, HL.out⟩
    · obtain ⟨hx1, hx2⟩ := str_none ho
      go_wp2
      go_meet
      case rel => exact ⟨congrArg Value.bool (by rw [HNR.out]; simp [nrB, ho]), HX.out, HN.out, HL.out⟩
  case rest =>
    obtain ⟨rfl, hx, hn, hl⟩ := hcut
    replace HX := hid hx
    replace HN := hid hn
    replace HL := hid hl
    clear hx hn hl k0 k1 k25 k26 k27
    obtain ⟨k0, k1, k25, k26, k27⟩ := it_heads HX.out
    by_cases hk1 : k = 1
    · subst hk1
      clear HNR HSD HBR HTO
      rcases bn with _ | _
      · skip
        go_wp2_with (go_at_call 88; refine (H1.out _ HL.out).mono ?_; rintro e W ⟨rfl, hb⟩; replace HL := hid (HL.out.trans (hb.mono HL.out.size)); replace HN := hid ((hb.block _ (lt_of_heap HN.out)).trans HN.out); replace HX := hid ((hb.block _ (lt_of_heap HX.out)).trans HX.out); clear hb k0 k1 k25 k26 k27; obtain ⟨k0, k1, k25, k26, k27⟩ := it_heads HX.out)
        go_ret
        exact ⟨bool_eq (by rw [riB_14 (by decide)]; simp [*]), HL.out⟩
      · skip
        by_cases hcr : cr = 0
        · subst hcr
          rcases zm with _ | _
          · skip
            go_wp2_with (first | (go_at_call 88; refine (H1.out _ HL.out).mono ?_; rintro e W ⟨rfl, hb⟩; replace HL := hid (HL.out.trans (hb.mono HL.out.size)); replace HN := hid ((hb.block _ (lt_of_heap HN.out)).trans HN.out); replace HX := hid ((hb.block _ (lt_of_heap HX.out)).trans HX.out); clear hb k0 k1 k25 k26 k27; obtain ⟨k0, k1, k25, k26, k27⟩ := it_heads HX.out) | (go_at_call 71; refine (H3.out _ HL.out).mono ?_; rintro e W ⟨rfl, hb⟩; replace HL := hid (HL.out.trans (hb.mono HL.out.size)); replace HN := hid ((hb.block _ (lt_of_heap HN.out)).trans HN.out); replace HX := hid ((hb.block _ (lt_of_heap HX.out)).trans HX.out); clear hb k0 k1 k25 k26 k27; obtain ⟨k0, k1, k25, k26, k27⟩ := it_heads HX.out) | (with_reducible (show wpList _ _ _ (⟨some 49, Op.load 33 (Operand.tmp 48), _, _, _, _⟩ :: _) _ _); refine wpList_load_part 33 (.tmp 48) rfl (by kernel_rfl) w.heap.size 2 rfl r.cs _ (it_ranges HX.out).1 Tryz.underlying33 rfl 9 info27 rfl ?_))
            go_ret
            exact ⟨bool_eq (by rw [riB_14 (by decide)]; simp [*]), HL.out⟩
          · skip
            go_wp2_with (first | (go_at_call 88; refine (H1.out _ HL.out).mono ?_; rintro e W ⟨rfl, hb⟩; replace HL := hid (HL.out.trans (hb.mono HL.out.size)); replace HN := hid ((hb.block _ (lt_of_heap HN.out)).trans HN.out); replace HX := hid ((hb.block _ (lt_of_heap HX.out)).trans HX.out); clear hb k0 k1 k25 k26 k27; obtain ⟨k0, k1, k25, k26, k27⟩ := it_heads HX.out) | (go_at_call 71; refine (H3.out _ HL.out).mono ?_; rintro e W ⟨rfl, hb⟩; replace HL := hid (HL.out.trans (hb.mono HL.out.size)); replace HN := hid ((hb.block _ (lt_of_heap HN.out)).trans HN.out); replace HX := hid ((hb.block _ (lt_of_heap HX.out)).trans HX.out); clear hb k0 k1 k25 k26 k27; obtain ⟨k0, k1, k25, k26, k27⟩ := it_heads HX.out) | (with_reducible (show wpList _ _ _ (⟨some 49, Op.load 33 (Operand.tmp 48), _, _, _, _⟩ :: _) _ _); refine wpList_load_part 33 (.tmp 48) rfl (by kernel_rfl) w.heap.size 2 rfl r.cs _ (it_ranges HX.out).1 Tryz.underlying33 rfl 9 info27 rfl ?_))
            go_ret
            exact ⟨bool_eq (by rw [riB_14 (by decide)]; simp [*]), HL.out⟩
        · have hqcr : (cr == 0) = false := by simpa using hcr
          go_wp2_with (first | (go_at_call 88; refine (H1.out _ HL.out).mono ?_; rintro e W ⟨rfl, hb⟩; replace HL := hid (HL.out.trans (hb.mono HL.out.size)); replace HN := hid ((hb.block _ (lt_of_heap HN.out)).trans HN.out); replace HX := hid ((hb.block _ (lt_of_heap HX.out)).trans HX.out); clear hb k0 k1 k25 k26 k27; obtain ⟨k0, k1, k25, k26, k27⟩ := it_heads HX.out) | (go_at_call 71; refine (H3.out _ HL.out).mono ?_; rintro e W ⟨rfl, hb⟩; replace HL := hid (HL.out.trans (hb.mono HL.out.size)); replace HN := hid ((hb.block _ (lt_of_heap HN.out)).trans HN.out); replace HX := hid ((hb.block _ (lt_of_heap HX.out)).trans HX.out); clear hb k0 k1 k25 k26 k27; obtain ⟨k0, k1, k25, k26, k27⟩ := it_heads HX.out) | (with_reducible (show wpList _ _ _ (⟨some 49, Op.load 33 (Operand.tmp 48), _, _, _, _⟩ :: _) _ _); refine wpList_load_part 33 (.tmp 48) rfl (by kernel_rfl) w.heap.size 2 rfl r.cs _ (it_ranges HX.out).1 Tryz.underlying33 rfl 9 info27 rfl ?_))
          go_ret
          exact ⟨bool_eq (by rw [riB_14 (by decide)]; simp [*]), HL.out⟩
    by_cases hk4 : k = 4
    · subst hk4
      clear HNR HSD HBR HTO
      rcases bn with _ | _
      · skip
        go_wp2_with (go_at_call 88; refine (H1.out _ HL.out).mono ?_; rintro e W ⟨rfl, hb⟩; replace HL := hid (HL.out.trans (hb.mono HL.out.size)); replace HN := hid ((hb.block _ (lt_of_heap HN.out)).trans HN.out); replace HX := hid ((hb.block _ (lt_of_heap HX.out)).trans HX.out); clear hb k0 k1 k25 k26 k27; obtain ⟨k0, k1, k25, k26, k27⟩ := it_heads HX.out)
        go_ret
        exact ⟨bool_eq (by rw [riB_14 (by decide)]; simp [*]), HL.out⟩
      · skip
        by_cases hcr : cr = 0
        · subst hcr
          rcases zm with _ | _
          · skip
            go_wp2_with (first | (go_at_call 88; refine (H1.out _ HL.out).mono ?_; rintro e W ⟨rfl, hb⟩; replace HL := hid (HL.out.trans (hb.mono HL.out.size)); replace HN := hid ((hb.block _ (lt_of_heap HN.out)).trans HN.out); replace HX := hid ((hb.block _ (lt_of_heap HX.out)).trans HX.out); clear hb k0 k1 k25 k26 k27; obtain ⟨k0, k1, k25, k26, k27⟩ := it_heads HX.out) | (go_at_call 71; refine (H3.out _ HL.out).mono ?_; rintro e W ⟨rfl, hb⟩; replace HL := hid (HL.out.trans (hb.mono HL.out.size)); replace HN := hid ((hb.block _ (lt_of_heap HN.out)).trans HN.out); replace HX := hid ((hb.block _ (lt_of_heap HX.out)).trans HX.out); clear hb k0 k1 k25 k26 k27; obtain ⟨k0, k1, k25, k26, k27⟩ := it_heads HX.out) | (with_reducible (show wpList _ _ _ (⟨some 49, Op.load 33 (Operand.tmp 48), _, _, _, _⟩ :: _) _ _); refine wpList_load_part 33 (.tmp 48) rfl (by kernel_rfl) w.heap.size 2 rfl r.cs _ (it_ranges HX.out).1 Tryz.underlying33 rfl 9 info27 rfl ?_))
            go_ret
            exact ⟨bool_eq (by rw [riB_14 (by decide)]; simp [*]), HL.out⟩
          · skip
            go_wp2_with (first | (go_at_call 88; refine (H1.out _ HL.out).mono ?_; rintro e W ⟨rfl, hb⟩; replace HL := hid (HL.out.trans (hb.mono HL.out.size)); replace HN := hid ((hb.block _ (lt_of_heap HN.out)).trans HN.out); replace HX := hid ((hb.block _ (lt_of_heap HX.out)).trans HX.out); clear hb k0 k1 k25 k26 k27; obtain ⟨k0, k1, k25, k26, k27⟩ := it_heads HX.out) | (go_at_call 71; refine (H3.out _ HL.out).mono ?_; rintro e W ⟨rfl, hb⟩; replace HL := hid (HL.out.trans (hb.mono HL.out.size)); replace HN := hid ((hb.block _ (lt_of_heap HN.out)).trans HN.out); replace HX := hid ((hb.block _ (lt_of_heap HX.out)).trans HX.out); clear hb k0 k1 k25 k26 k27; obtain ⟨k0, k1, k25, k26, k27⟩ := it_heads HX.out) | (with_reducible (show wpList _ _ _ (⟨some 49, Op.load 33 (Operand.tmp 48), _, _, _, _⟩ :: _) _ _); refine wpList_load_part 33 (.tmp 48) rfl (by kernel_rfl) w.heap.size 2 rfl r.cs _ (it_ranges HX.out).1 Tryz.underlying33 rfl 9 info27 rfl ?_))
            go_ret
            exact ⟨bool_eq (by rw [riB_14 (by decide)]; simp [*]), HL.out⟩
        · have hqcr : (cr == 0) = false := by simpa using hcr
          go_wp2_with (first | (go_at_call 88; refine (H1.out _ HL.out).mono ?_; rintro e W ⟨rfl, hb⟩; replace HL := hid (HL.out.trans (hb.mono HL.out.size)); replace HN := hid ((hb.block _ (lt_of_heap HN.out)).trans HN.out); replace HX := hid ((hb.block _ (lt_of_heap HX.out)).trans HX.out); clear hb k0 k1 k25 k26 k27; obtain ⟨k0, k1, k25, k26, k27⟩ := it_heads HX.out) | (go_at_call 71; refine (H3.out _ HL.out).mono ?_; rintro e W ⟨rfl, hb⟩; replace HL := hid (HL.out.trans (hb.mono HL.out.size)); replace HN := hid ((hb.block _ (lt_of_heap HN.out)).trans HN.out); replace HX := hid ((hb.block _ (lt_of_heap HX.out)).trans HX.out); clear hb k0 k1 k25 k26 k27; obtain ⟨k0, k1, k25, k26, k27⟩ := it_heads HX.out) | (with_reducible (show wpList _ _ _ (⟨some 49, Op.load 33 (Operand.tmp 48), _, _, _, _⟩ :: _) _ _); refine wpList_load_part 33 (.tmp 48) rfl (by kernel_rfl) w.heap.size 2 rfl r.cs _ (it_ranges HX.out).1 Tryz.underlying33 rfl 9 info27 rfl ?_))
          go_ret
          exact ⟨bool_eq (by rw [riB_14 (by decide)]; simp [*]), HL.out⟩
    by_cases hk2 : k = 2
    · subst hk2
      clear HNR HSD HBR HTO
      rcases bn with _ | _
      · skip
        go_wp2_with (go_at_call 88; refine (H1.out _ HL.out).mono ?_; rintro e W ⟨rfl, hb⟩; replace HL := hid (HL.out.trans (hb.mono HL.out.size)); replace HN := hid ((hb.block _ (lt_of_heap HN.out)).trans HN.out); replace HX := hid ((hb.block _ (lt_of_heap HX.out)).trans HX.out); clear hb k0 k1 k25 k26 k27; obtain ⟨k0, k1, k25, k26, k27⟩ := it_heads HX.out)
        go_ret
        exact ⟨bool_eq (by rw [riB_2]; simp [*]), HL.out⟩
      · skip
        rcases zr with _ | _
        · skip
          go_wp2_with (first | (go_at_call 88; refine (H1.out _ HL.out).mono ?_; rintro e W ⟨rfl, hb⟩; replace HL := hid (HL.out.trans (hb.mono HL.out.size)); replace HN := hid ((hb.block _ (lt_of_heap HN.out)).trans HN.out); replace HX := hid ((hb.block _ (lt_of_heap HX.out)).trans HX.out); clear hb k0 k1 k25 k26 k27; obtain ⟨k0, k1, k25, k26, k27⟩ := it_heads HX.out) | (go_at_call 19; refine (H6.out _ HL.out).mono ?_; rintro e W ⟨rfl, hb⟩; replace HL := hid (HL.out.trans (hb.mono HL.out.size)); replace HN := hid ((hb.block _ (lt_of_heap HN.out)).trans HN.out); replace HX := hid ((hb.block _ (lt_of_heap HX.out)).trans HX.out); clear hb k0 k1 k25 k26 k27; obtain ⟨k0, k1, k25, k26, k27⟩ := it_heads HX.out) | (with_reducible (show wpList _ _ _ (⟨some 66, Op.load 33 (Operand.tmp 65), _, _, _, _⟩ :: _) _ _); refine wpList_load_part 33 (.tmp 65) rfl (by kernel_rfl) w.heap.size 2 rfl r.cs _ (it_ranges HX.out).1 Tryz.underlying33 rfl 9 info27 rfl ?_) | (with_reducible (show wpList _ _ _ (⟨some 67, Op.load 33 (Operand.tmp 3), _, _, _, _⟩ :: _) _ _); refine wpList_load_part 33 (.tmp 3) rfl (by kernel_rfl) (w.heap.size + 1) 0 rfl reZ _ (none_range HN.out) Tryz.underlying33 rfl 9 info27 rfl ?_))
          go_ret
          exact ⟨bool_eq (by rw [riB_2]; simp [*]), HL.out⟩
        · skip
          rcases mr with _ | _
          · skip
            go_wp2_with (first | (go_at_call 88; refine (H1.out _ HL.out).mono ?_; rintro e W ⟨rfl, hb⟩; replace HL := hid (HL.out.trans (hb.mono HL.out.size)); replace HN := hid ((hb.block _ (lt_of_heap HN.out)).trans HN.out); replace HX := hid ((hb.block _ (lt_of_heap HX.out)).trans HX.out); clear hb k0 k1 k25 k26 k27; obtain ⟨k0, k1, k25, k26, k27⟩ := it_heads HX.out) | (go_at_call 19; refine (H6.out _ HL.out).mono ?_; rintro e W ⟨rfl, hb⟩; replace HL := hid (HL.out.trans (hb.mono HL.out.size)); replace HN := hid ((hb.block _ (lt_of_heap HN.out)).trans HN.out); replace HX := hid ((hb.block _ (lt_of_heap HX.out)).trans HX.out); clear hb k0 k1 k25 k26 k27; obtain ⟨k0, k1, k25, k26, k27⟩ := it_heads HX.out) | (go_at_call 89; refine (H10.out _ HL.out).mono ?_; rintro e W ⟨rfl, hb⟩; replace HL := hid (HL.out.trans (hb.mono HL.out.size)); replace HN := hid ((hb.block _ (lt_of_heap HN.out)).trans HN.out); replace HX := hid ((hb.block _ (lt_of_heap HX.out)).trans HX.out); clear hb k0 k1 k25 k26 k27; obtain ⟨k0, k1, k25, k26, k27⟩ := it_heads HX.out) | (with_reducible (show wpList _ _ _ (⟨some 66, Op.load 33 (Operand.tmp 65), _, _, _, _⟩ :: _) _ _); refine wpList_load_part 33 (.tmp 65) rfl (by kernel_rfl) w.heap.size 2 rfl r.cs _ (it_ranges HX.out).1 Tryz.underlying33 rfl 9 info27 rfl ?_) | (with_reducible (show wpList _ _ _ (⟨some 67, Op.load 33 (Operand.tmp 3), _, _, _, _⟩ :: _) _ _); refine wpList_load_part 33 (.tmp 3) rfl (by kernel_rfl) (w.heap.size + 1) 0 rfl reZ _ (none_range HN.out) Tryz.underlying33 rfl 9 info27 rfl ?_) | (with_reducible (show wpList _ _ _ (⟨some 72, Op.load 36 (Operand.tmp 71), _, _, _, _⟩ :: _) _ _); refine wpList_load_part 36 (.tmp 71) rfl (by kernel_rfl) w.heap.size 11 rfl m.cs _ (it_ranges HX.out).2.1 Tryz.underlying36 rfl 14 info44 rfl ?_))
            go_ret
            exact ⟨bool_eq (by rw [riB_2]; simp [*]), HL.out⟩
          · skip
            go_wp2_with (first | (go_at_call 88; refine (H1.out _ HL.out).mono ?_; rintro e W ⟨rfl, hb⟩; replace HL := hid (HL.out.trans (hb.mono HL.out.size)); replace HN := hid ((hb.block _ (lt_of_heap HN.out)).trans HN.out); replace HX := hid ((hb.block _ (lt_of_heap HX.out)).trans HX.out); clear hb k0 k1 k25 k26 k27; obtain ⟨k0, k1, k25, k26, k27⟩ := it_heads HX.out) | (go_at_call 19; refine (H6.out _ HL.out).mono ?_; rintro e W ⟨rfl, hb⟩; replace HL := hid (HL.out.trans (hb.mono HL.out.size)); replace HN := hid ((hb.block _ (lt_of_heap HN.out)).trans HN.out); replace HX := hid ((hb.block _ (lt_of_heap HX.out)).trans HX.out); clear hb k0 k1 k25 k26 k27; obtain ⟨k0, k1, k25, k26, k27⟩ := it_heads HX.out) | (go_at_call 89; refine (H10.out _ HL.out).mono ?_; rintro e W ⟨rfl, hb⟩; replace HL := hid (HL.out.trans (hb.mono HL.out.size)); replace HN := hid ((hb.block _ (lt_of_heap HN.out)).trans HN.out); replace HX := hid ((hb.block _ (lt_of_heap HX.out)).trans HX.out); clear hb k0 k1 k25 k26 k27; obtain ⟨k0, k1, k25, k26, k27⟩ := it_heads HX.out) | (with_reducible (show wpList _ _ _ (⟨some 66, Op.load 33 (Operand.tmp 65), _, _, _, _⟩ :: _) _ _); refine wpList_load_part 33 (.tmp 65) rfl (by kernel_rfl) w.heap.size 2 rfl r.cs _ (it_ranges HX.out).1 Tryz.underlying33 rfl 9 info27 rfl ?_) | (with_reducible (show wpList _ _ _ (⟨some 67, Op.load 33 (Operand.tmp 3), _, _, _, _⟩ :: _) _ _); refine wpList_load_part 33 (.tmp 3) rfl (by kernel_rfl) (w.heap.size + 1) 0 rfl reZ _ (none_range HN.out) Tryz.underlying33 rfl 9 info27 rfl ?_) | (with_reducible (show wpList _ _ _ (⟨some 72, Op.load 36 (Operand.tmp 71), _, _, _, _⟩ :: _) _ _); refine wpList_load_part 36 (.tmp 71) rfl (by kernel_rfl) w.heap.size 11 rfl m.cs _ (it_ranges HX.out).2.1 Tryz.underlying36 rfl 14 info44 rfl ?_))
            go_ret
            exact ⟨bool_eq (by rw [riB_2]; simp [*]), HL.out⟩
    by_cases hk3 : k = 3
    · subst hk3
      clear HNR
      go_upto_region 11 with fail
      go_cut [6] (fun v W => v = .bool (sd) ∧ W.heap[w.heap.size]? = some (.cells (itC 3 nm r m o b ar l q) 65 (0, 0)) ∧ W.heap[w.heap.size + 1]? = some (.cells reZ 33 (0, 0)) ∧ Below w.heap.size w W)
      case first =>
        rcases ar with _ | _
        · skip
          go_wp2
          go_meet
          case rel => exact ⟨congrArg Value.bool (by rw [HSD.out]; simp [sdB]), HX.out, HN.out, HL.out⟩
        · skip
          by_cases hcl : cl = 0
          · subst hcl
            by_cases hcq : cq = 0
            · subst hcq
              have tok1 : True := trivial
              have tok2 : True := trivial
              go_wp2_with (first | (with_reducible (show wpList _ _ _ (⟨some 84, Op.load 33 (Operand.tmp 83), _, _, _, _⟩ :: _) _ _); refine wpList_load_part 33 (.tmp 83) rfl (by kernel_rfl) w.heap.size 28 rfl l.cs _ (it_ranges HX.out).2.2.1 Tryz.underlying33 rfl 9 info27 rfl ?_) | (with_reducible (show wpList _ _ _ (⟨some 90, Op.load 33 (Operand.tmp 89), _, _, _, _⟩ :: _) _ _); refine wpList_load_part 33 (.tmp 89) rfl (by kernel_rfl) w.heap.size 37 rfl q.cs _ (it_ranges HX.out).2.2.2 Tryz.underlying33 rfl 9 info27 rfl ?_) | (have _t := tok1; go_at_call 71; refine (H4.out _ HL.out).mono ?_; rintro e W ⟨rfl, hb⟩; replace HL := hid (HL.out.trans (hb.mono HL.out.size)); replace HN := hid ((hb.block _ (lt_of_heap HN.out)).trans HN.out); replace HX := hid ((hb.block _ (lt_of_heap HX.out)).trans HX.out); clear hb k0 k1 k25 k26 k27 _t tok1; obtain ⟨k0, k1, k25, k26, k27⟩ := it_heads HX.out) | (have _t := tok2; go_at_call 71; refine (H5.out _ HL.out).mono ?_; rintro e W ⟨rfl, hb⟩; replace HL := hid (HL.out.trans (hb.mono HL.out.size)); replace HN := hid ((hb.block _ (lt_of_heap HN.out)).trans HN.out); replace HX := hid ((hb.block _ (lt_of_heap HX.out)).trans HX.out); clear hb k0 k1 k25 k26 k27 _t tok2; obtain ⟨k0, k1, k25, k26, k27⟩ := it_heads HX.out))
              go_meet
              case rel => exact ⟨congrArg Value.bool (by rw [HSD.out]; simp [sdB]), HX.out, HN.out, HL.out⟩
            · have hqcq : (cq == 0) = false := by simpa using hcq
              have tok1 : True := trivial
              have tok2 : True := trivial
              go_wp2_with (first | (with_reducible (show wpList _ _ _ (⟨some 84, Op.load 33 (Operand.tmp 83), _, _, _, _⟩ :: _) _ _); refine wpList_load_part 33 (.tmp 83) rfl (by kernel_rfl) w.heap.size 28 rfl l.cs _ (it_ranges HX.out).2.2.1 Tryz.underlying33 rfl 9 info27 rfl ?_) | (with_reducible (show wpList _ _ _ (⟨some 90, Op.load 33 (Operand.tmp 89), _, _, _, _⟩ :: _) _ _); refine wpList_load_part 33 (.tmp 89) rfl (by kernel_rfl) w.heap.size 37 rfl q.cs _ (it_ranges HX.out).2.2.2 Tryz.underlying33 rfl 9 info27 rfl ?_) | (have _t := tok1; go_at_call 71; refine (H4.out _ HL.out).mono ?_; rintro e W ⟨rfl, hb⟩; replace HL := hid (HL.out.trans (hb.mono HL.out.size)); replace HN := hid ((hb.block _ (lt_of_heap HN.out)).trans HN.out); replace HX := hid ((hb.block _ (lt_of_heap HX.out)).trans HX.out); clear hb k0 k1 k25 k26 k27 _t tok1; obtain ⟨k0, k1, k25, k26, k27⟩ := it_heads HX.out) | (have _t := tok2; go_at_call 71; refine (H5.out _ HL.out).mono ?_; rintro e W ⟨rfl, hb⟩; replace HL := hid (HL.out.trans (hb.mono HL.out.size)); replace HN := hid ((hb.block _ (lt_of_heap HN.out)).trans HN.out); replace HX := hid ((hb.block _ (lt_of_heap HX.out)).trans HX.out); clear hb k0 k1 k25 k26 k27 _t tok2; obtain ⟨k0, k1, k25, k26, k27⟩ := it_heads HX.out))
              go_meet
              case rel => exact ⟨congrArg Value.bool (by rw [HSD.out]; simp [sdB, hqcq]), HX.out, HN.out, HL.out⟩
          · have hqcl : (cl == 0) = false := by simpa using hcl
            have tok1 : True := trivial
            go_wp2_with (first | (with_reducible (show wpList _ _ _ (⟨some 84, Op.load 33 (Operand.tmp 83), _, _, _, _⟩ :: _) _ _); refine wpList_load_part 33 (.tmp 83) rfl (by kernel_rfl) w.heap.size 28 rfl l.cs _ (it_ranges HX.out).2.2.1 Tryz.underlying33 rfl 9 info27 rfl ?_) | (have _t := tok1; go_at_call 71; refine (H4.out _ HL.out).mono ?_; rintro e W ⟨rfl, hb⟩; replace HL := hid (HL.out.trans (hb.mono HL.out.size)); replace HN := hid ((hb.block _ (lt_of_heap HN.out)).trans HN.out); replace HX := hid ((hb.block _ (lt_of_heap HX.out)).trans HX.out); clear hb k0 k1 k25 k26 k27 _t tok1; obtain ⟨k0, k1, k25, k26, k27⟩ := it_heads HX.out))
            go_meet
            case rel => exact ⟨congrArg Value.bool (by rw [HSD.out]; simp [sdB, hqcl]), HX.out, HN.out, HL.out⟩
      case rest =>
        obtain ⟨rfl, hx, hn, hl⟩ := hcut
        replace HX := hid hx
        replace HN := hid hn
        replace HL := hid hl
        clear hx hn hl k0 k1 k25 k26 k27
        obtain ⟨k0, k1, k25, k26, k27⟩ := it_heads HX.out
        go_upto_region 12 with fail
        go_cut [7] (fun v W => v = .bool (br) ∧ W.heap[w.heap.size]? = some (.cells (itC 3 nm r m o b ar l q) 65 (0, 0)) ∧ W.heap[w.heap.size + 1]? = some (.cells reZ 33 (0, 0)) ∧ Below w.heap.size w W)
        case first =>
          rcases ar with _ | _
          · skip
            rcases zl with _ | _
            · skip
              have tok1 : True := trivial
              go_wp2_with (first | (with_reducible (show wpList _ _ _ (⟨some 99, Op.load 33 (Operand.tmp 98), _, _, _, _⟩ :: _) _ _); refine wpList_load_part 33 (.tmp 98) rfl (by kernel_rfl) w.heap.size 28 rfl l.cs _ (it_ranges HX.out).2.2.1 Tryz.underlying33 rfl 9 info27 rfl ?_) | (with_reducible (show wpList _ _ _ (⟨some 100, Op.load 33 (Operand.tmp 3), _, _, _, _⟩ :: _) _ _); refine wpList_load_part 33 (.tmp 3) rfl (by kernel_rfl) (w.heap.size + 1) 0 rfl reZ _ (none_range HN.out) Tryz.underlying33 rfl 9 info27 rfl ?_) | (have _t := tok1; go_at_call 19; refine (H7.out _ HL.out).mono ?_; rintro e W ⟨rfl, hb⟩; replace HL := hid (HL.out.trans (hb.mono HL.out.size)); replace HN := hid ((hb.block _ (lt_of_heap HN.out)).trans HN.out); replace HX := hid ((hb.block _ (lt_of_heap HX.out)).trans HX.out); clear hb k0 k1 k25 k26 k27 _t tok1; obtain ⟨k0, k1, k25, k26, k27⟩ := it_heads HX.out))
              go_meet
              case rel => exact ⟨congrArg Value.bool (by rw [HBR.out]; simp [brB]), HX.out, HN.out, HL.out⟩
            · skip
              have tok1 : True := trivial
              have tok2 : True := trivial
              go_wp2_with (first | (with_reducible (show wpList _ _ _ (⟨some 99, Op.load 33 (Operand.tmp 98), _, _, _, _⟩ :: _) _ _); refine wpList_load_part 33 (.tmp 98) rfl (by kernel_rfl) w.heap.size 28 rfl l.cs _ (it_ranges HX.out).2.2.1 Tryz.underlying33 rfl 9 info27 rfl ?_) | (with_reducible (show wpList _ _ _ (⟨some 100, Op.load 33 (Operand.tmp 3), _, _, _, _⟩ :: _) _ _); refine wpList_load_part 33 (.tmp 3) rfl (by kernel_rfl) (w.heap.size + 1) 0 rfl reZ _ (none_range HN.out) Tryz.underlying33 rfl 9 info27 rfl ?_) | (with_reducible (show wpList _ _ _ (⟨some 105, Op.load 33 (Operand.tmp 104), _, _, _, _⟩ :: _) _ _); refine wpList_load_part 33 (.tmp 104) rfl (by kernel_rfl) w.heap.size 37 rfl q.cs _ (it_ranges HX.out).2.2.2 Tryz.underlying33 rfl 9 info27 rfl ?_) | (with_reducible (show wpList _ _ _ (⟨some 106, Op.load 33 (Operand.tmp 3), _, _, _, _⟩ :: _) _ _); refine wpList_load_part 33 (.tmp 3) rfl (by kernel_rfl) (w.heap.size + 1) 0 rfl reZ _ (none_range HN.out) Tryz.underlying33 rfl 9 info27 rfl ?_) | (have _t := tok1; go_at_call 19; refine (H7.out _ HL.out).mono ?_; rintro e W ⟨rfl, hb⟩; replace HL := hid (HL.out.trans (hb.mono HL.out.size)); replace HN := hid ((hb.block _ (lt_of_heap HN.out)).trans HN.out); replace HX := hid ((hb.block _ (lt_of_heap HX.out)).trans HX.out); clear hb k0 k1 k25 k26 k27 _t tok1; obtain ⟨k0, k1, k25, k26, k27⟩ := it_heads HX.out) | (have _t := tok2; go_at_call 19; refine (H8.out _ HL.out).mono ?_; rintro e W ⟨rfl, hb⟩; replace HL := hid (HL.out.trans (hb.mono HL.out.size)); replace HN := hid ((hb.block _ (lt_of_heap HN.out)).trans HN.out); replace HX := hid ((hb.block _ (lt_of_heap HX.out)).trans HX.out); clear hb k0 k1 k25 k26 k27 _t tok2; obtain ⟨k0, k1, k25, k26, k27⟩ := it_heads HX.out))
              go_meet
              case rel => exact ⟨congrArg Value.bool (by rw [HBR.out]; simp [brB]), HX.out, HN.out, HL.out⟩
          · skip
            go_wp2
            go_meet
            case rel => exact ⟨congrArg Value.bool (by rw [HBR.out]; simp [brB]), HX.out, HN.out, HL.out⟩
        case rest =>
          obtain ⟨rfl, hx, hn, hl⟩ := hcut
          replace HX := hid hx
          replace HN := hid hn
          replace HL := hid hl
          clear hx hn hl k0 k1 k25 k26 k27
          obtain ⟨k0, k1, k25, k26, k27⟩ := it_heads HX.out
          go_upto_region 13 with fail
          go_cut [8] (fun v W => v = .bool (to1) ∧ W.heap[w.heap.size]? = some (.cells (itC 3 nm r m o b ar l q) 65 (0, 0)) ∧ W.heap[w.heap.size + 1]? = some (.cells reZ 33 (0, 0)) ∧ Below w.heap.size w W)
          case first =>
            by_cases hb : b = []
            · subst hb
              by_cases hlo : o.length ≤ 256
              · have hl2 : ((o.length : Nat) : Int) ≤ 256 := by omega
                go_wp2
                go_meet
                case rel => exact ⟨congrArg Value.bool (by rw [HTO.out]; simp [toB, hlo]), HX.out, HN.out, HL.out⟩
              · have hl2 : ¬ ((o.length : Nat) : Int) ≤ 256 := by omega
                have ho : ¬ o = [] := by rintro rfl; simp at hlo
                rcases bb with _ | _
                · skip
                  go_wp2_with (go_at_call 88; refine (H2.out _ HL.out).mono ?_; rintro e W ⟨rfl, hb⟩; replace HL := hid (HL.out.trans (hb.mono HL.out.size)); replace HN := hid ((hb.block _ (lt_of_heap HN.out)).trans HN.out); replace HX := hid ((hb.block _ (lt_of_heap HX.out)).trans HX.out); clear hb k0 k1 k25 k26 k27; obtain ⟨k0, k1, k25, k26, k27⟩ := it_heads HX.out)
                  go_meet
                  case rel => exact ⟨congrArg Value.bool (by rw [HTO.out]; simp [toB, hlo]), HX.out, HN.out, HL.out⟩
                · skip
                  obtain ⟨hx1, hx2⟩ := str_none ho
                  go_wp2_with (go_at_call 88; refine (H2.out _ HL.out).mono ?_; rintro e W ⟨rfl, hb⟩; replace HL := hid (HL.out.trans (hb.mono HL.out.size)); replace HN := hid ((hb.block _ (lt_of_heap HN.out)).trans HN.out); replace HX := hid ((hb.block _ (lt_of_heap HX.out)).trans HX.out); clear hb k0 k1 k25 k26 k27; obtain ⟨k0, k1, k25, k26, k27⟩ := it_heads HX.out)
                  go_meet
                  case rel => exact ⟨congrArg Value.bool (by rw [HTO.out]; simp [toB, hlo, ho]), HX.out, HN.out, HL.out⟩
            · obtain ⟨hx1, hx2⟩ := str_none hb
              rcases bb with _ | _
              · skip
                go_wp2_with (go_at_call 88; refine (H2.out _ HL.out).mono ?_; rintro e W ⟨rfl, hb⟩; replace HL := hid (HL.out.trans (hb.mono HL.out.size)); replace HN := hid ((hb.block _ (lt_of_heap HN.out)).trans HN.out); replace HX := hid ((hb.block _ (lt_of_heap HX.out)).trans HX.out); clear hb k0 k1 k25 k26 k27; obtain ⟨k0, k1, k25, k26, k27⟩ := it_heads HX.out)
                go_meet
                case rel => exact ⟨congrArg Value.bool (by rw [HTO.out]; simp [toB, hb]), HX.out, HN.out, HL.out⟩
              · skip
                by_cases ho : o = []
                · subst ho
                  go_wp2_with (go_at_call 88; refine (H2.out _ HL.out).mono ?_; rintro e W ⟨rfl, hb⟩; replace HL := hid (HL.out.trans (hb.mono HL.out.size)); replace HN := hid ((hb.block _ (lt_of_heap HN.out)).trans HN.out); replace HX := hid ((hb.block _ (lt_of_heap HX.out)).trans HX.out); clear hb k0 k1 k25 k26 k27; obtain ⟨k0, k1, k25, k26, k27⟩ := it_heads HX.out)
                  go_meet
                  case rel => exact ⟨congrArg Value.bool (by rw [HTO.out]; simp [toB, hb]), HX.out, HN.out, HL.out⟩
                · obtain ⟨hx1, hx2⟩ := str_none ho
                  go_wp2_with (go_at_call 88; refine (H2.out _ HL.out).mono ?_; rintro e W ⟨rfl, hb⟩; replace HL := hid (HL.out.trans (hb.mono HL.out.size)); replace HN := hid ((hb.block _ (lt_of_heap HN.out)).trans HN.out); replace HX := hid ((hb.block _ (lt_of_heap HX.out)).trans HX.out); clear hb k0 k1 k25 k26 k27; obtain ⟨k0, k1, k25, k26, k27⟩ := it_heads HX.out)
                  go_meet
                  case rel => exact ⟨congrArg Value.bool (by rw [HTO.out]; simp [toB, hb, ho]), HX.out, HN.out, HL.out⟩
          case rest =>
            obtain ⟨rfl, hx, hn, hl⟩ := hcut
            replace HX := hid hx
            replace HN := hid hn
            replace HL := hid hl
            clear hx hn hl k0 k1 k25 k26 k27
            obtain ⟨k0, k1, k25, k26, k27⟩ := it_heads HX.out
            go_upto_region 14 with fail
            by_cases hnm : nm = []
            · subst hnm
              by_cases hcr : cr = 0
              · subst hcr
                rcases zm with _ | _
                · skip
                  go_wp2_with (first | (go_at_call 71; refine (H3.out _ HL.out).mono ?_; rintro e W ⟨rfl, hb⟩; replace HL := hid (HL.out.trans (hb.mono HL.out.size)); replace HN := hid ((hb.block _ (lt_of_heap HN.out)).trans HN.out); replace HX := hid ((hb.block _ (lt_of_heap HX.out)).trans HX.out); clear hb k0 k1 k25 k26 k27; obtain ⟨k0, k1, k25, k26, k27⟩ := it_heads HX.out) | (with_reducible (show wpList _ _ _ (⟨some 133, Op.load 33 (Operand.tmp 132), _, _, _, _⟩ :: _) _ _); refine wpList_load_part 33 (.tmp 132) rfl (by kernel_rfl) w.heap.size 2 rfl r.cs _ (it_ranges HX.out).1 Tryz.underlying33 rfl 9 info27 rfl ?_))
                  go_ret
                  exact ⟨bool_eq (by rw [riB_3]; simp [*]), HL.out⟩
                · skip
                  rcases to1 with _ | _
                  · skip
                    go_wp2_with (first | (go_at_call 71; refine (H3.out _ HL.out).mono ?_; rintro e W ⟨rfl, hb⟩; replace HL := hid (HL.out.trans (hb.mono HL.out.size)); replace HN := hid ((hb.block _ (lt_of_heap HN.out)).trans HN.out); replace HX := hid ((hb.block _ (lt_of_heap HX.out)).trans HX.out); clear hb k0 k1 k25 k26 k27; obtain ⟨k0, k1, k25, k26, k27⟩ := it_heads HX.out) | (with_reducible (show wpList _ _ _ (⟨some 133, Op.load 33 (Operand.tmp 132), _, _, _, _⟩ :: _) _ _); refine wpList_load_part 33 (.tmp 132) rfl (by kernel_rfl) w.heap.size 2 rfl r.cs _ (it_ranges HX.out).1 Tryz.underlying33 rfl 9 info27 rfl ?_))
                    go_ret
                    exact ⟨bool_eq (by rw [riB_3]; simp [*]), HL.out⟩
                  · skip
                    rcases sd with _ | _
                    · skip
                      go_wp2_with (first | (go_at_call 71; refine (H3.out _ HL.out).mono ?_; rintro e W ⟨rfl, hb⟩; replace HL := hid (HL.out.trans (hb.mono HL.out.size)); replace HN := hid ((hb.block _ (lt_of_heap HN.out)).trans HN.out); replace HX := hid ((hb.block _ (lt_of_heap HX.out)).trans HX.out); clear hb k0 k1 k25 k26 k27; obtain ⟨k0, k1, k25, k26, k27⟩ := it_heads HX.out) | (with_reducible (show wpList _ _ _ (⟨some 133, Op.load 33 (Operand.tmp 132), _, _, _, _⟩ :: _) _ _); refine wpList_load_part 33 (.tmp 132) rfl (by kernel_rfl) w.heap.size 2 rfl r.cs _ (it_ranges HX.out).1 Tryz.underlying33 rfl 9 info27 rfl ?_))
                      go_ret
                      exact ⟨bool_eq (by rw [riB_3]; simp [*]), HL.out⟩
                    · skip
                      go_wp2_with (first | (go_at_call 71; refine (H3.out _ HL.out).mono ?_; rintro e W ⟨rfl, hb⟩; replace HL := hid (HL.out.trans (hb.mono HL.out.size)); replace HN := hid ((hb.block _ (lt_of_heap HN.out)).trans HN.out); replace HX := hid ((hb.block _ (lt_of_heap HX.out)).trans HX.out); clear hb k0 k1 k25 k26 k27; obtain ⟨k0, k1, k25, k26, k27⟩ := it_heads HX.out) | (with_reducible (show wpList _ _ _ (⟨some 133, Op.load 33 (Operand.tmp 132), _, _, _, _⟩ :: _) _ _); refine wpList_load_part 33 (.tmp 132) rfl (by kernel_rfl) w.heap.size 2 rfl r.cs _ (it_ranges HX.out).1 Tryz.underlying33 rfl 9 info27 rfl ?_))
                      go_ret
                      exact ⟨bool_eq (by rw [riB_3]; simp [*]), HL.out⟩
              · have hqcr : (cr == 0) = false := by simpa using hcr
                go_wp2_with (first | (go_at_call 71; refine (H3.out _ HL.out).mono ?_; rintro e W ⟨rfl, hb⟩; replace HL := hid (HL.out.trans (hb.mono HL.out.size)); replace HN := hid ((hb.block _ (lt_of_heap HN.out)).trans HN.out); replace HX := hid ((hb.block _ (lt_of_heap HX.out)).trans HX.out); clear hb k0 k1 k25 k26 k27; obtain ⟨k0, k1, k25, k26, k27⟩ := it_heads HX.out) | (with_reducible (show wpList _ _ _ (⟨some 133, Op.load 33 (Operand.tmp 132), _, _, _, _⟩ :: _) _ _); refine wpList_load_part 33 (.tmp 132) rfl (by kernel_rfl) w.heap.size 2 rfl r.cs _ (it_ranges HX.out).1 Tryz.underlying33 rfl 9 info27 rfl ?_))
                go_ret
                exact ⟨bool_eq (by rw [riB_3]; simp [*]), HL.out⟩
            · obtain ⟨hx1, hx2⟩ := str_none hnm
              go_wp2
              go_ret
              exact ⟨bool_eq (by rw [riB_3]; simp [*]), HL.out⟩
    have q1 : (k == 1) = false := by simpa using hk1
    have q2 : (k == 2) = false := by simpa using hk2
    have q3 : (k == 3) = false := by simpa using hk3
    have q4 : (k == 4) = false := by simpa using hk4
    have HK := hid (riB_no hk1 hk2 hk3 hk4 nm bn zr zm mr cr nr sd br to1)
    clear hk1 hk2 hk3 hk4
    go_wp2
    go_ret
    exact ⟨bool_eq HK.out.symm, HL.out⟩
theorem ri_same (x : It) : riB x.kind x.name (nameOk x.name) (emptyRw (rwOf x.re)) (emptyMw (mwOf x.map)) (mrightB 200 x.map) (checkM x.re) (nrB x.out x.by_ x.around (emptyRw (rwOf x.left)) (emptyRw (rwOf x.right))) (sdB x.around (checkM x.left) (checkM x.right)) (brB x.around (emptyRw (rwOf x.left)) (emptyRw (rwOf x.right))) (toB x.out x.by_ (nameOk x.by_)) = itX x := by
  have e0 : emptyRw Rw.zero = true := rfl
  have e1 : emptyMw Mw.zero = true := rfl
  unfold itX itB
  by_cases h14 : x.kind = 1 ∨ x.kind = 4
  · rw [riB_14 h14, okI_14 h14, restI_14 (y := iwOf x) h14]
    show _ = ((nameOk x.name && checkM x.re == 0) && _)
    unfold nrB emptyI
    simp only [iwOf, e0, decide_true, Bool.true_and]
    rfl
  · by_cases h2 : x.kind = 2
    · rw [h2, riB_2, okI_2 h2, restI_2 (y := iwOf x) h2]
      unfold nrB emptyI
      simp only [iwOf, e1, decide_true, Bool.true_and]
      generalize emptyRw (rwOf x.re) = a
      generalize mrightB 200 x.map = b
      cases a <;> cases b <;> simp <;> rfl
    · by_cases h3 : x.kind = 3
      · rw [h3, riB_3, okI_3 h3, restI_3 (y := iwOf x) h3]
        show _ = ((((checkM x.re == 0) && _) && _) && (!x.around || ((checkM x.left == 0) && (checkM x.right == 0))) && _)
        unfold sdB brB toB
        have hlen : x.out = [] → decide (x.out.length ≤ 256) = true := by intro h; rw [h]; rfl
        generalize (checkM x.re == 0) = c1
        generalize (checkM x.left == 0) = c2
        generalize (checkM x.right == 0) = c3
        generalize decide (x.out.length ≤ 256) = le at *
        have hq : (iwOf x).ar = x.around := rfl
        rw [hq]
        cases hra : x.around
        · rw [if_neg (by simp)]
          unfold emptyI
          simp only [iwOf, e0, hra, Bool.not_false]
          generalize emptyRw (rwOf x.left) = z1
          generalize emptyRw (rwOf x.right) = z2
          generalize emptyMw (mwOf x.map) = z3
          generalize nameOk x.by_ = nb
          by_cases ho : x.out = []
          · rw [hlen ho, decide_eq_true ho]
            by_cases d1 : x.by_ = [] <;> by_cases d2 : x.name = [] <;> simp only [d1, d2, decide_true, decide_false, Bool.true_and, Bool.and_true, Bool.false_and, Bool.and_false, Bool.true_or, Bool.false_or] <;> revert c1 c2 c3 z1 z2 z3 nb <;> decide
          · rw [decide_eq_false ho]
            clear hlen
            by_cases d1 : x.by_ = [] <;> by_cases d2 : x.name = [] <;> simp only [d1, d2, decide_true, decide_false, Bool.true_and, Bool.and_true, Bool.false_and, Bool.and_false, Bool.true_or, Bool.false_or, Bool.or_false] <;> revert c1 c2 c3 z1 z2 z3 nb le <;> decide
        · rw [if_pos rfl]
          unfold emptyI
          simp only [iwOf, e0, Bool.not_true]
          generalize emptyRw (rwOf x.left) = z1
          generalize emptyRw (rwOf x.right) = z2
          generalize emptyMw (mwOf x.map) = z3
          generalize nameOk x.by_ = nb
          by_cases ho : x.out = []
          · rw [hlen ho, decide_eq_true ho]
            by_cases d1 : x.by_ = [] <;> by_cases d2 : x.name = [] <;> simp only [d1, d2, decide_true, decide_false, Bool.true_and, Bool.and_true, Bool.false_and, Bool.and_false, Bool.true_or, Bool.false_or, Bool.or_false, Bool.not_false] <;> revert c1 c2 c3 z1 z2 z3 nb <;> decide
          · rw [decide_eq_false ho]
            clear hlen
            by_cases d1 : x.by_ = [] <;> by_cases d2 : x.name = [] <;> simp only [d1, d2, decide_true, decide_false, Bool.true_and, Bool.and_true, Bool.false_and, Bool.and_false, Bool.false_or, Bool.or_false, Bool.not_false] <;> revert c1 c2 c3 z1 z2 z3 nb le <;> decide
      · rw [riB_no (fun h => h14 (.inl h)) h2 h3 (fun h => h14 (.inr h)), okI_no h14 h2 h3, Bool.false_and]
theorem ritemR_any {F : Nat → Prop} {x : It} {y : Iw} {w : World} (hFw : ∀ g, F g → g < w.heap.size) (hy : ItG F w x y) (ht : TxIt x) (hr : nodes x.re ≤ 1000000) (hl : nodes x.left ≤ 1000000) (hq : nodes x.right ≤ 1000000) (hm : NdMp x.map) (ho : x.out.length ≤ 140737488351232) :
    Calls Tryz.prog 42 #[.agg y.cs] w fun e w' => e = .returned (.bool (itX x)) ∧ Below w.heap.size w w' := by
  have hf := hy.fit
  have hlt : ∀ W : World, Below w.heap.size w W → ∀ g, F g → g < W.heap.size := fun W hW g hg => Nat.lt_of_lt_of_le (hFw g hg) hW.size
  obtain ⟨yk, yn, yr, ym, yo, yb, ya, yl, yq⟩ := y
  obtain ⟨e1, e2, g1, g2, e3, e4, e5, g3, g4⟩ := hy
  dsimp only at e1 e2 e3 e4 e5 g1 g2 g3 g4
  have f1 : yr.n ≤ maxLen := hf.r
  have f2 : ym.n ≤ maxLen := hf.m
  have f3 : ym.r.n ≤ maxLen := hf.mr
  have f4 : yl.n ≤ maxLen := hf.l
  have f5 : yq.n ≤ maxLen := hf.q
  rw [← ri_same x]
  rw [← emptyRw_same g1, ← emptyMw_same g2, ← emptyRw_same g3, ← emptyRw_same g4]
  subst yk yn yo yb ya
  exact ritem_gen (nameOk x.name) (nameOk x.by_) (emptyRw yr) (emptyRw yl) (emptyRw yq) (emptyMw ym) (mrightB 200 x.map) (checkM x.re) (checkM x.left) (checkM x.right) ho
    (fun W _ => nameR_any _ W ht.n) (fun W _ => nameR_any _ W ht.b)
    (fun W hW => checkR_any (hlt W hW) (g1.below hFw hW) ht.r hr) (fun W hW => checkR_any (hlt W hW) (g3.below hFw hW) ht.l hl) (fun W hW => checkR_any (hlt W hW) (g4.below hFw hW) ht.q hq)
    (fun W _ => sameZ_any yr f1 W) (fun W _ => sameZ_any yl f4 W) (fun W _ => sameZ_any yq f5 W) (fun W _ => sameMZ_any ym f2 f3 W)
    (fun W hW => mrightR_any (hlt W hW) (g2.below hFw hW) ht.m hm)
end Go.Proofs.YtfljcfdfgojdoaaGreatDoor.Sh.Rf
