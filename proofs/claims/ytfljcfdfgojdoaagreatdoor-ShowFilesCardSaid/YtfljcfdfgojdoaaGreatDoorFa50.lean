/-
  Few of items, as the reference tells it; the walk of ShowFiles. (Printed by genIz.py.)
-/
import Derived.Test.YtfljcfdfgojdoaaGreatDoorFa49
import Derived.Test.YtfljcfdfgojdoaaGreatDoorFa24
import Derived.Test.YtfljcfdfgojdoaaGreatDoorFa25
namespace Go.Proofs.YtfljcfdfgojdoaaGreatDoor.Sh.Rf
open Go.RowKit Go.Lib Go.Proofs.YtfljcfdfgojdoaaGreatDoor Go.Proofs.YtfljcfdfgojdoaaGreatDoor.Sh

structure FewIt (x : It) : Prop where
  r : nodes x.re < 1000
  l : nodes x.left < 1000
  q : nodes x.right < 1000
  m : mnodes x.map < 1000
  d : NdMp x.map
  o : x.out.length ≤ 600
def FewIts (l : List It) : Prop := l.length ≤ 300 ∧ ∀ x ∈ l, FewIt x
theorem FewIt.nd {x : It} (h : FewIt x) : NdIt x := by
  refine ⟨by have := h.r; omega, by have := h.l; omega, by have := h.q; omega, h.d, h.o, fun hx => ?_⟩
  have hr := RtIt.of hx
  have k1 := h.r
  have k2 := h.l
  have k3 := h.q
  have k4 := h.m
  have k5 := h.o
  have nl : ∀ {s : List B}, nameOk s = true → s.length ≤ 1000 := fun h => by
    have := name_len (nameOk_iff.1 h)
    omega
  have ol : ∀ {o b : List B}, o.length ≤ 256 → (b = [] ∨ (o = [] ∧ nameOk b = true)) → (if b = [] then textW o else b).length ≤ 2000 := fun {o b} ho hb => by
    have := textW_len o
    rcases hb with rfl | ⟨_, hb⟩
    · rw [if_pos rfl]; omega
    · have := nl hb
      split
      · omega
      · omega
  clear hx h
  have z1 : reD Re.zero = 0 := reD_zero
  have z2 : mpD Mp.zero = 0 := mpD_zero
  cases hr with
  | named k s r hk hs hr =>
    have a1 := reD_le _ _ hr
    have a2 := reW_len _ _ hr
    have a3 := nl hs
    dsimp only at k1 k2 k3 k4 k5 ⊢
    refine ⟨⟨by omega, by omega, by omega, by omega⟩, ?_⟩
    rcases hk with rfl | rfl
    · show ([100, 101, 102, 32] ++ s ++ [32, 61, 32] ++ reW setS r ++ [59, 10]).length ≤ _
      simp only [List.length_append, List.length_cons, List.length_nil]; omega
    · show ([116, 111, 107, 101, 110, 32] ++ s ++ [32, 61, 32] ++ reW setS r ++ [59, 10]).length ≤ _
      simp only [List.length_append, List.length_cons, List.length_nil]; omega
  | map s m hs hm =>
    have a1 := mpD_le _ _ hm
    have a2 := mpW_len _ _ hm
    have a3 := nl hs
    dsimp only at k1 k2 k3 k4 k5 ⊢
    refine ⟨⟨by omega, by omega, by omega, by omega⟩, ?_⟩
    show ([109, 97, 112, 32] ++ s ++ [32, 61, 32] ++ mpW setS m ++ [59, 10]).length ≤ _
    simp only [List.length_append, List.length_cons, List.length_nil]; omega
  | rule r o b hr ho hb =>
    have a1 := reD_le _ _ hr
    have a2 := reW_len _ _ hr
    have a3 := ol ho hb
    dsimp only at k1 k2 k3 k4 k5 ⊢
    refine ⟨⟨by omega, by omega, by omega, by omega⟩, ?_⟩
    show ([114, 117, 108, 101, 32] ++ reW setS r ++ [32, 45, 62, 32] ++ (if b = [] then textW o else b) ++ [] ++ [59, 10]).length ≤ _
    simp only [List.length_append, List.length_cons, List.length_nil]; omega
  | around r o b l q hr ho hb hl hq =>
    have a1 := reD_le _ _ hr
    have a2 := reW_len _ _ hr
    have b1 := reD_le _ _ hl
    have b2 := reW_len _ _ hl
    have c1 := reD_le _ _ hq
    have c2 := reW_len _ _ hq
    have a3 := ol ho hb
    dsimp only at k1 k2 k3 k4 k5 ⊢
    refine ⟨⟨by omega, by omega, by omega, by omega⟩, ?_⟩
    show ([114, 117, 108, 101, 32] ++ reW setS r ++ [32, 45, 62, 32] ++ (if b = [] then textW o else b) ++ ([32, 47, 32] ++ reW setS l ++ [32, 95, 32] ++ reW setS q) ++ [59, 10]).length ≤ _
    simp only [List.length_append, List.length_cons, List.length_nil]; omega
set_option maxRecDepth 100000 in
set_option maxHeartbeats 8000000 in
theorem fewIts_any {F : Nat → Prop} {l : List It} {ad : Option Addr} {cap : Nat} {w : World} (hFw : ∀ g, F g → g < w.heap.size) (hl : ItsR F w l ad) :
    Calls Tryz.prog 11 #[.slice ad l.length cap] w (FewP (FewIts l) w) := by
  have HFW := hid hFw
  have HI := hid hl
  have hlen : l.length ≤ 9223372036854775807 := by have := hl.len; unfold maxLen at this; omega
  by_cases h300 : 300 < l.length
  · have hgt : ¬ ((l.length : Int) ≤ 300) := by omega
    have hg0 : (0 : Int) < (l.length : Int) := by omega
    clear hFw hl
    go_enter Tryz.func11, Tryz.ntmps11
    go_wp2
    refine wp_loop_rounds 1 ?_
    rw [rounds_succ]
    go_wp2
    go_ret
    exact FewP.mk (decide ((l.length : Int) ≤ 300)) (fun h => absurd (of_decide_eq_true h) (by omega)) (Below.refl _ _)
  · have hgt : ((l.length : Int) ≤ 300) := by omega
    have H300 := hid (show l.length ≤ 300 by omega)
    clear hFw hl h300
    go_enter Tryz.func11, Tryz.ntmps11
    go_wp2
    go_loopw [3] (fun v wr => ∃ i : Nat, i ≤ l.length ∧ v = .int .i64 i ∧ Hid (∀ x, x ∈ l.take i → FewIt x) ∧ Hid (Below w.heap.size w wr)) (fun v _ => l.length - (RowKit.intOf v).toNat)
    case atStart => exact ⟨0, Nat.zero_le _, rfl, hid (fun x hx => by simp at hx), hid (Below.refl _ _)⟩
    case round =>
      obtain ⟨i, hi, rfl, HA, HBW⟩ := hrel
      have hsz := HBW.out.size
      by_cases hlt : i < l.length
      · obtain ⟨g, off, rfl, hgF, hparts⟩ := HI.out.at' (by rintro rfl; simp at hlt)
        obtain ⟨y, hy, hr⟩ := hparts i l[i] (List.getElem?_eq_getElem hlt)
        have HR := hid (show wr.rangeAt g (off + i * 46) y.cs.toList from fun j v hv => (HBW.out.cell (p := ⟨g, off + i * 46 + j, none⟩) (HFW.out g hgF)).trans (hr j v hv))
        have HYW := hid (fun (W : World) (hW : Below w.heap.size w W) => hy.below HFW.out hW)
        have HLT := hid (fun (W : World) (hW : Below w.heap.size w W) => fun (g : Nat) (hg : F g) => Nat.lt_of_lt_of_le (HFW.out g hg) hW.size)
        have HC1 := hid (fun (W : World) (hW : Below w.heap.size w W) => few_re (HLT.out W hW) (HYW.out W hW).r)
        have HC2 := hid (fun (W : World) (hW : Below w.heap.size w W) => few_re (HLT.out W hW) (HYW.out W hW).l)
        have HC3 := hid (fun (W : World) (hW : Below w.heap.size w W) => few_re (HLT.out W hW) (HYW.out W hW).q)
        have HC4 := hid (fun (W : World) (hW : Below w.heap.size w W) => nd_mp (HLT.out W hW) (HYW.out W hW).m)
        have hyo : y.o = l[i].out := hy.o
        have HYO := hid hyo
        have hgi : (i : Int) < (l.length : Int) := by omega
        have HST := hid (fun h : FewIt l[i] => show ∀ x, x ∈ l.take (i + 1) → FewIt x from fun x hx => by
          rw [take_snoc hlt] at hx
          rcases List.mem_append.1 hx with hx | hx
          · exact HA.out x hx
          · rw [List.mem_singleton.1 hx]; exact h)
        clear hparts hr hy hgF hyo HYW HLT
        generalize l[i] = x at *
        obtain ⟨yk, yn, yr, ym, yo, yb, ya, yl, yq⟩ := y
        go_upto_region 5 with (first | (refine wpList_load_part 65 (.tmp 18) rfl (by kernel_rfl) g (off + i * 46) rfl (Iw.cs ⟨yk, yn, yr, ym, yo, yb, ya, yl, yq⟩) _ HR.out Tryz.underlying65 rfl 46 info46 rfl ?_) | (refine wpList_store_newN rfl 65 (.tmp 4) (.tmp 19) rfl 46 info46 65 itZ rfl (Iw.cs ⟨yk, yn, yr, ym, yo, yb, ya, yl, yq⟩) wr.heap.size rfl rfl rfl (itC_size _ _ _ _ _ _ _ _ _) (itC_one _ _ _ _ _ _ _ _ _) ?_))
        have HX := hid (show (wr.alloc (.cells (Iw.cs ⟨yk, yn, yr, ym, yo, yb, ya, yl, yq⟩) 65)).heap[wr.heap.size]? = some (.cells (Iw.cs ⟨yk, yn, yr, ym, yo, yb, ya, yl, yq⟩) 65 (0, 0)) from heap_alloc_new _ _)
        have HL := hid (HBW.out.alloc hsz (.cells (Iw.cs ⟨yk, yn, yr, ym, yo, yb, ya, yl, yq⟩) 65))
        generalize wr.alloc (.cells (Iw.cs ⟨yk, yn, yr, ym, yo, yb, ya, yl, yq⟩) 65) = W1 at *
        generalize hP : wr.heap.size = P at *
        clear hP
        obtain ⟨_, _, k25, _, _⟩ := it_heads HX.out
        have HYO2 := hid (show yo = x.out from HYO.out)
        clear HYO
        have tok1 : True := trivial
        have tok2 : True := trivial
        have tok3 : True := trivial
        have tok4 : True := trivial
        by_cases hol : (600 : Int) < (yo.length : Int)
        · have hol2 : (600 : Int) < (((⟨yo.toArray⟩ : ByteArray).size : Nat) : Int) := by rw [str_size]; exact hol
          go_wp2_with (first | (with_reducible (show wpList _ _ _ (⟨some 21, Op.load 33 (Operand.tmp 20), _, _, _, _⟩ :: _) _ _); refine wpList_load_part 33 (.tmp 20) rfl (by kernel_rfl) P 2 rfl yr.cs _ (it_ranges HX.out).1 Tryz.underlying33 rfl 9 info27 rfl ?_) | (with_reducible (show wpList _ _ _ (⟨some 26, Op.load 33 (Operand.tmp 25), _, _, _, _⟩ :: _) _ _); refine wpList_load_part 33 (.tmp 25) rfl (by kernel_rfl) P 28 rfl yl.cs _ (it_ranges HX.out).2.2.1 Tryz.underlying33 rfl 9 info27 rfl ?_) | (with_reducible (show wpList _ _ _ (⟨some 32, Op.load 33 (Operand.tmp 31), _, _, _, _⟩ :: _) _ _); refine wpList_load_part 33 (.tmp 31) rfl (by kernel_rfl) P 37 rfl yq.cs _ (it_ranges HX.out).2.2.2 Tryz.underlying33 rfl 9 info27 rfl ?_) | (with_reducible (show wpList _ _ _ (⟨some 38, Op.load 36 (Operand.tmp 37), _, _, _, _⟩ :: _) _ _); refine wpList_load_part 36 (.tmp 37) rfl (by kernel_rfl) P 11 rfl ym.cs _ (it_ranges HX.out).2.1 Tryz.underlying36 rfl 14 info44 rfl ?_) | (have _t := tok1; go_at_call 15; refine (HC1.out _ HL.out).mono ?_; rintro e V ⟨b1, rfl, hb1, hl⟩; have HN1 := hid hb1; replace HL := hid (HL.out.trans (hl.mono HL.out.size)); replace HX := hid ((hl.block _ (lt_of_heap HX.out)).trans HX.out); clear hl hb1 _t tok1 k25; obtain ⟨_, _, k25, _, _⟩ := it_heads HX.out) | (have _t := tok2; go_at_call 15; refine (HC2.out _ HL.out).mono ?_; rintro e V ⟨b2, rfl, hb2, hl⟩; have HN2 := hid hb2; replace HL := hid (HL.out.trans (hl.mono HL.out.size)); replace HX := hid ((hl.block _ (lt_of_heap HX.out)).trans HX.out); clear hl hb2 _t tok2 k25; obtain ⟨_, _, k25, _, _⟩ := it_heads HX.out) | (have _t := tok3; go_at_call 15; refine (HC3.out _ HL.out).mono ?_; rintro e V ⟨b3, rfl, hb3, hl⟩; have HN3 := hid hb3; replace HL := hid (HL.out.trans (hl.mono HL.out.size)); replace HX := hid ((hl.block _ (lt_of_heap HX.out)).trans HX.out); clear hl hb3 _t tok3 k25; obtain ⟨_, _, k25, _, _⟩ := it_heads HX.out) | (have _t := tok4; go_at_call 16; refine (HC4.out _ HL.out).mono ?_; rintro e V ⟨b4, rfl, hb4, hl⟩; have HN4 := hid hb4; replace HL := hid (HL.out.trans (hl.mono HL.out.size)); replace HX := hid ((hl.block _ (lt_of_heap HX.out)).trans HX.out); clear hl hb4 _t tok4 k25; obtain ⟨_, _, k25, _, _⟩ := it_heads HX.out))
          all_goals
            go_ret
            exact FewP.mk false (fun h => by cases h) HL.out
        · have hol2 : ¬ (600 : Int) < (((⟨yo.toArray⟩ : ByteArray).size : Nat) : Int) := by rw [str_size]; exact hol
          have HOL := hid (show x.out.length ≤ 600 by rw [← HYO2.out]; omega)
          go_wp2_with (first | (with_reducible (show wpList _ _ _ (⟨some 21, Op.load 33 (Operand.tmp 20), _, _, _, _⟩ :: _) _ _); refine wpList_load_part 33 (.tmp 20) rfl (by kernel_rfl) P 2 rfl yr.cs _ (it_ranges HX.out).1 Tryz.underlying33 rfl 9 info27 rfl ?_) | (with_reducible (show wpList _ _ _ (⟨some 26, Op.load 33 (Operand.tmp 25), _, _, _, _⟩ :: _) _ _); refine wpList_load_part 33 (.tmp 25) rfl (by kernel_rfl) P 28 rfl yl.cs _ (it_ranges HX.out).2.2.1 Tryz.underlying33 rfl 9 info27 rfl ?_) | (with_reducible (show wpList _ _ _ (⟨some 32, Op.load 33 (Operand.tmp 31), _, _, _, _⟩ :: _) _ _); refine wpList_load_part 33 (.tmp 31) rfl (by kernel_rfl) P 37 rfl yq.cs _ (it_ranges HX.out).2.2.2 Tryz.underlying33 rfl 9 info27 rfl ?_) | (with_reducible (show wpList _ _ _ (⟨some 38, Op.load 36 (Operand.tmp 37), _, _, _, _⟩ :: _) _ _); refine wpList_load_part 36 (.tmp 37) rfl (by kernel_rfl) P 11 rfl ym.cs _ (it_ranges HX.out).2.1 Tryz.underlying36 rfl 14 info44 rfl ?_) | (have _t := tok1; go_at_call 15; refine (HC1.out _ HL.out).mono ?_; rintro e V ⟨b1, rfl, hb1, hl⟩; have HN1 := hid hb1; replace HL := hid (HL.out.trans (hl.mono HL.out.size)); replace HX := hid ((hl.block _ (lt_of_heap HX.out)).trans HX.out); clear hl hb1 _t tok1 k25; obtain ⟨_, _, k25, _, _⟩ := it_heads HX.out) | (have _t := tok2; go_at_call 15; refine (HC2.out _ HL.out).mono ?_; rintro e V ⟨b2, rfl, hb2, hl⟩; have HN2 := hid hb2; replace HL := hid (HL.out.trans (hl.mono HL.out.size)); replace HX := hid ((hl.block _ (lt_of_heap HX.out)).trans HX.out); clear hl hb2 _t tok2 k25; obtain ⟨_, _, k25, _, _⟩ := it_heads HX.out) | (have _t := tok3; go_at_call 15; refine (HC3.out _ HL.out).mono ?_; rintro e V ⟨b3, rfl, hb3, hl⟩; have HN3 := hid hb3; replace HL := hid (HL.out.trans (hl.mono HL.out.size)); replace HX := hid ((hl.block _ (lt_of_heap HX.out)).trans HX.out); clear hl hb3 _t tok3 k25; obtain ⟨_, _, k25, _, _⟩ := it_heads HX.out) | (have _t := tok4; go_at_call 16; refine (HC4.out _ HL.out).mono ?_; rintro e V ⟨b4, rfl, hb4, hl⟩; have HN4 := hid hb4; replace HL := hid (HL.out.trans (hl.mono HL.out.size)); replace HX := hid ((hl.block _ (lt_of_heap HX.out)).trans HX.out); clear hl hb4 _t tok4 k25; obtain ⟨_, _, k25, _, _⟩ := it_heads HX.out))
          all_goals first
            | (go_ret
               exact FewP.mk false (fun h => by cases h) HL.out)
            | (have hn1 := HN1.out (by first | assumption | simp_all)
               have hn2 := HN2.out (by first | assumption | simp_all)
               have hn3 := HN3.out (by first | assumption | simp_all)
               have hn4 := HN4.out (by first | assumption | simp_all)
               have HFI := hid (HST.out ⟨hn1, hn2, hn3, hn4.1, hn4.2, HOL.out⟩)
               go_roundw
               case rel => exact ⟨i + 1, by omega, by go_num, HFI, HL⟩
               case measure => simp [RowKit.intOf]; omega)
      · obtain rfl : i = l.length := by omega
        have HALL := hid (show FewIts l from ⟨H300.out, fun x hx => HA.out x (by rw [List.take_length]; exact hx)⟩)
        clear hlt
        go_wp2
        go_ret
        exact FewP.mk true (fun _ => HALL.out) HBW.out
set_option maxRecDepth 100000 in
set_option maxHeartbeats 4000000 in
theorem showFiles_walk {l : List It} {ad : Option Addr} {cap : Nat} {w : World} (hl : ItsR (fun g => g < w.heap.size) w l ad) (ht : ∀ x ∈ l, TxIt x) (hs : ∀ x ∈ l, SeIt x) :
    Calls Tryz.prog 3 #[.slice ad l.length cap] w fun e w' => e = .returned (.bool true) ∧ Below w.heap.size w w' := by
  have hfew := fewIts_any (cap := cap) (fun _ h => h) hl
  have HT := hid ht
  have HS := hid hs
  have HW := hid (fun (W : World) (hW : Below w.heap.size w W) => (⟨fun g hg => Nat.lt_of_lt_of_le hg hW.size, hl.below (fun _ h => h) (Nat.le_refl _) hW⟩ : (∀ g, g < w.heap.size → g < W.heap.size) ∧ ItsR (fun g => g < w.heap.size) W l ad))
  clear hl ht hs
  go_enter Tryz.func3, Tryz.ntmps3
  go_upto_if 9 with (go_at_call 11; refine hfew.mono ?_; clear hfew; rintro e W1 ⟨b1, rfl, hb1, hl1⟩; have HN1 := hid hb1; have HL1 := hid hl1; clear hb1 hl1)
  cases b1 with
  | false =>
    go_wp2
    go_ret
    exact ⟨rfl, HL1.out⟩
  | true =>
    have HFI := hid (HN1.out rfl)
    have HND := hid (fun x hx => (HFI.out.2 x hx).nd)
    have HSF := hid (fun (W : World) (hW : Below w.heap.size w W) => showFile_any (cap := cap) (HW.out W hW).1 (HW.out W hW).2 HT.out HS.out
      (fun ha _ x hx => by have := ((HND.out x hx).b (List.all_eq_true.1 ha x hx)).1; unfold itemD; omega)
      (fun ha hle => by
        have h1 : (l.flatMap (itemW setS)).length ≤ l.length * 1000000000 := flat_le fun x hx => ((HND.out x hx).b (List.all_eq_true.1 ha x hx)).2
        omega))
    have HRF := hid (fun (W : World) (hW : Below w.heap.size w W) => fileR_any (cap := cap) (HW.out W hW).1 (HW.out W hW).2 HT.out HS.out HND.out)
    generalize showFile l = X at *
    obtain ⟨X, e⟩ := X
    clear HN1
    go_wp2_with (first | (go_at_call 12; refine (HSF.out _ HL1.out).mono ?_; rintro e' W2 ⟨rfl, hb⟩; have HL2 := hid (HL1.out.trans (hb.mono HL1.out.size)); clear hb) | (go_at_call 13; refine (HRF.out _ HL2.out).mono ?_; rintro e' W3 ⟨rfl, hb⟩; have HL3 := hid (HL2.out.trans (hb.mono HL2.out.size)); clear hb) | (go_at_call 14; refine (awake8_any _).mono ?_; rintro e' W4 ⟨rfl, hb⟩; have HL4 := hid (HL3.out.trans (hb.mono HL3.out.size)); clear hb))
    go_ret
    exact ⟨rfl, HL4.out⟩
end Go.Proofs.YtfljcfdfgojdoaaGreatDoor.Sh.Rf
