/-
  show.File as it is.
-/
import Derived.Test.YtfljcfdfgojdoaaGreatDoorFa46
import Derived.Test.YtfljcfdfgojdoaaGreatDoorFa47
import Derived.Test.YtfljcfdfgojdoaaGreatDoorFa24
namespace Go.Proofs.YtfljcfdfgojdoaaGreatDoor.Sh
open Go.RowKit Go.Lib Go.Proofs.YtfljcfdfgojdoaaGreatDoor

theorem item_any {P : Nat} {x : It} {y : Iw} {w : World} {m : Nat} {l : List B} (hx : RtIt x) (hs : SeIt x) (hG : ItG (fun g => g < P) w x y) (hW : SW P w 0 m l) (hm : m ≤ 1000000) (hD : itemD x ≤ 1000000) (hL : l.length + (itemW setS x).length ≤ 1099511627776) :
    Calls Tryz.prog 40 #[ptrV P, .agg y.cs] w (WPost P w 0 (max m (itemD x)) (l ++ itemW setS x)) := by
  have bne : ∀ {b : List B}, nameOk b = true → b ≠ [] := fun h => by
    obtain ⟨c, r, rfl, _⟩ := name_of (nameOk_iff.1 h)
    simp
  cases hx with
  | named k s r hk _ hr =>
    rcases hk with rfl | rfl
    · exact item_def hr hs.r hG hW hm hD hL
    · exact item_token hr hs.r hG hW hm hD hL
  | map s r _ hr => exact item_map hr hs.m hG hW hm hD hL
  | rule r o b hr ho hb =>
    by_cases h : b = []
    · subst h; exact item_rule_out hr hs.r ho hG hW hm hD hL
    · obtain ⟨rfl, _⟩ := hb.resolve_left h
      exact item_rule_by hr hs.r h hG hW hm hD hL
  | around r o b q1 q2 hr ho hb h1 h2 =>
    by_cases h : b = []
    · subst h; exact item_rule_out_around hr hs.r ho h1 hs.l h2 hs.q hG hW hm hD hL
    · obtain ⟨rfl, _⟩ := hb.resolve_left h
      exact item_rule_by_around hr hs.r h h1 hs.l h2 hs.q hG hW hm hD hL
def dF (l : List It) : Nat := (l.map itemD).foldl max 0
theorem dF_snoc (l : List It) (x : It) : dF (l ++ [x]) = max (dF l) (itemD x) := by unfold dF; simp
theorem foldl_max_le {B : Nat} : ∀ (l : List Nat) (a : Nat), a ≤ B → (∀ x ∈ l, x ≤ B) → l.foldl max a ≤ B
  | [], _, h, _ => h
  | x :: l, a, h, hl => foldl_max_le l (max a x) (by have := hl x List.mem_cons_self; omega) fun y hy => hl y (List.mem_cons_of_mem _ hy)
theorem dF_le {B : Nat} {l : List It} (h : ∀ x ∈ l, itemD x ≤ B) : dF l ≤ B :=
  foldl_max_le _ _ (Nat.zero_le _) fun y hy => by
    obtain ⟨x, hx, rfl⟩ := List.mem_map.1 hy
    exact h x hx
theorem flat_take {f : It → List B} : ∀ {l : List It} {i : Nat} (h : i < l.length), ((l.take i).flatMap f).length + (f l[i]).length ≤ (l.flatMap f).length
  | x :: l, 0, _ => by simp [List.flatMap_cons]
  | x :: l, i + 1, h => by
    have h' : i < l.length := by simpa using h
    have := flat_take (f := f) h'
    simp only [List.take_succ_cons, List.flatMap_cons, List.length_append, List.getElem_cons_succ]
    omega
theorem all_take {l : List It} {i : Nat} (h : i < l.length) (ha : (l.take i).all itX = true) (hx : itX l[i] = true) : (l.take (i + 1)).all itX = true := by
  rw [take_snoc h, List.all_append, ha]
  simp [hx]
theorem all_not {l : List It} {i : Nat} (h : i < l.length) (hx : itX l[i] = false) : l.all itX = false := by
  rw [List.all_eq_false]
  exact ⟨l[i], List.getElem_mem h, by rw [hx]; decide⟩
theorem all_mem {l : List It} (h : l.all itX = true) {i : Nat} (hi : i < l.length) : itX l[i] = true := List.all_eq_true.1 h _ (List.getElem_mem hi)
set_option maxRecDepth 100000 in
set_option maxHeartbeats 4000000 in
theorem showFile_any {F : Nat → Prop} {l : List It} {ad : Option Addr} {cap : Nat} {w : World} (hFw : ∀ g, F g → g < w.heap.size) (hl : ItsR F w l ad) (ht : ∀ x ∈ l, TxIt x) (hs : ∀ x ∈ l, SeIt x)
    (hD : l.all itX = true → l.length ≤ 256 → ∀ x ∈ l, itemD x ≤ 1000000) (hL : l.all itX = true → l.length ≤ 256 → (l.flatMap (itemW setS)).length ≤ 1099511627776) :
    Calls Tryz.prog 12 #[.slice ad l.length cap] w (TextPost w (showFile l)) := by
  have HFW := hid hFw
  have HI := hid hl
  have HT := hid ht
  have HS := hid hs
  have hlen : l.length ≤ 9223372036854775807 := by have := hl.len; unfold maxLen at this; omega
  by_cases h256 : 256 < l.length
  · have HE := hid (show showFile l = ([], 2) by unfold showFile; rw [if_pos h256])
    have hgt : (256 : Int) < (l.length : Int) := by omega
    clear hFw hl ht hs hD hL
    go_enter Tryz.func12, Tryz.ntmps12
    go_wp2
    go_ret2
    rw [HE.out]
    exact ⟨rfl, Below.refl _ _⟩
  · have hgt : ¬ ((256 : Int) < (l.length : Int)) := by omega
    have HE := hid (show showFile l = if l.all itX = true then endM (l.flatMap (itemW setS)) (dF l) else ([], 1) by unfold showFile; rw [if_neg h256]; rfl)
    have HB := hid (show l.all itX = true → (∀ x ∈ l, itemD x ≤ 1000000) ∧ (l.flatMap (itemW setS)).length ≤ 1099511627776 from fun h => ⟨hD h (by omega), hL h (by omega)⟩)
    clear hFw hl ht hs hD hL
    go_enter Tryz.func12, Tryz.ntmps12
    go_wp2
    go_loopw [14] (fun v wr => ∃ i : Nat, i ≤ l.length ∧ v = .int .i64 i ∧ Hid ((l.take i).all itX = true) ∧ Below w.heap.size w wr) (fun v _ => l.length - (RowKit.intOf v).toNat)
    case atStart => exact ⟨0, Nat.zero_le _, rfl, hid rfl, Below.refl _ _⟩
    case round =>
      obtain ⟨i, hi, rfl, HA, hb⟩ := hrel
      have hsz := hb.size
      have HBW := hid hb
      clear hb
      by_cases hlt : i < l.length
      · obtain ⟨g, off, rfl, hgF, hparts⟩ := HI.out.at' (by rintro rfl; simp at hlt)
        obtain ⟨y, hy, hr⟩ := hparts i l[i] (List.getElem?_eq_getElem hlt)
        have HR := hid (show wr.rangeAt g (off + i * 46) y.cs.toList from fun j v hv => (HBW.out.cell (p := ⟨g, off + i * 46 + j, none⟩) (HFW.out g hgF)).trans (hr j v hv))
        have hb1 : Below w.heap.size w (wr.alloc (.cells y.cs 65)) := HBW.out.alloc hsz _
        have hsz1 : (wr.alloc (.cells y.cs 65)).heap.size = wr.heap.size + 1 := by simp
        have hy1 := hy.below HFW.out hb1
        have htx := HT.out l[i] (List.getElem_mem hlt)
        have hri := rightItem_any (w := wr.alloc (.cells y.cs 65)) (fun g hg => by have := HFW.out g hg; omega) hy1 htx.r htx.l htx.q htx.m htx.n htx.b
        rw [itB_same hy1] at hri
        have HB1 := hid hb1
        have HSZ1 := hid hsz1
        have hgi : (i : Int) < (l.length : Int) := by omega
        clear hparts hr hy hy1 htx hb1 hsz1 hgF
        rcases Bool.eq_false_or_eq_true (itX l[i]) with hx | hx
        · have HA2 := hid (all_take hlt HA.out hx)
          rw [hx] at hri
          clear hx
          go_wp2_with (first | (refine wpList_load_part 65 (.tmp 16) rfl (by kernel_rfl) g (off + i * 46) rfl y.cs _ HR.out Tryz.underlying65 rfl 46 info46 rfl ?_) | (refine wpList_store_newN rfl 65 (.tmp 5) (.tmp 17) rfl 46 info46 65 itZ rfl y.cs wr.heap.size rfl rfl rfl (itC_size _ _ _ _ _ _ _ _ _) (itC_one _ _ _ _ _ _ _ _ _) ?_) | (refine wpList_load_blk rfl 65 (.tmp 5) rfl 46 info46 _ Tryz.underlying65 rfl wr.heap.size rfl 65 y.cs (heap_alloc_new _ _) rfl ?_) | (go_at_call 39; refine hri.mono ?_; clear hri; rintro e w2 ⟨rfl, hb2⟩))
          go_roundw
          case rel => exact ⟨i + 1, by omega, by go_num, HA2, HB1.out.trans (hb2.mono HB1.out.size)⟩
          case measure => simp [RowKit.intOf]; omega
        · have HE2 := hid (show showFile l = ([], 1) by rw [HE.out, all_not hlt hx]; rfl)
          rw [hx] at hri
          clear hx
          go_wp2_with (first | (refine wpList_load_part 65 (.tmp 16) rfl (by kernel_rfl) g (off + i * 46) rfl y.cs _ HR.out Tryz.underlying65 rfl 46 info46 rfl ?_) | (refine wpList_store_newN rfl 65 (.tmp 5) (.tmp 17) rfl 46 info46 65 itZ rfl y.cs wr.heap.size rfl rfl rfl (itC_size _ _ _ _ _ _ _ _ _) (itC_one _ _ _ _ _ _ _ _ _) ?_) | (refine wpList_load_blk rfl 65 (.tmp 5) rfl 46 info46 _ Tryz.underlying65 rfl wr.heap.size rfl 65 y.cs (heap_alloc_new _ _) rfl ?_) | (go_at_call 39; refine hri.mono ?_; clear hri; rintro e w2 ⟨rfl, hb2⟩))
          go_ret2
          rw [HE2.out]
          exact ⟨rfl, HB1.out.trans (hb2.mono HB1.out.size)⟩
      · obtain rfl : i = l.length := by omega
        have hall : l.all itX = true := by have := HA.out; rwa [List.take_length] at this
        have HALL := hid hall
        have HE3 := hid (show showFile l = endM (l.flatMap (itemW setS)) (dF l) by rw [HE.out, if_pos hall])
        obtain ⟨hD, hL⟩ := HB.out hall
        have HDD := hid hD
        have HLL := hid hL
        clear hall hD hL HA hlt
        go_upto_region 10 with fail
        have hP : (wr.alloc (.cells #[.int .i64 0, .int .i64 0, .slice none 0 0] 75)).heap[wr.heap.size]? = some (.cells #[.int .i64 0, .int .i64 0, .slice none 0 0] 75 (0, 0)) := heap_alloc_new _ _
        have HB1 := hid (HBW.out.alloc hsz (.cells #[.int .i64 0, .int .i64 0, .slice none 0 0] 75))
        have HSW := hid (sw_new hP)
        have hPlt := lt_of_heap hP
        clear hP
        generalize wr.alloc (.cells #[.int .i64 0, .int .i64 0, .slice none 0 0] 75) = W1 at *
        generalize wr.heap.size = P at *
        go_wp2
        go_loopw [26] (fun v wr => ∃ i : Nat, i ≤ l.length ∧ v = .int .i64 i ∧ Hid (SW P wr 0 (dF (l.take i)) ((l.take i).flatMap (itemW setS))) ∧ Hid (Upd P W1 wr)) (fun v _ => l.length - (RowKit.intOf v).toNat)
        case atStart => exact ⟨0, Nat.zero_le _, rfl, hid (by rw [List.take_zero]; exact HSW.out), hid (Upd.refl _ _)⟩
        case round =>
          obtain ⟨i, hi, rfl, HWI, HUI⟩ := hrel
          by_cases hlt : i < l.length
          · obtain ⟨g, off, rfl, hgF, hparts⟩ := HI.out.at' (by rintro rfl; simp at hlt)
            obtain ⟨y, hy, hr⟩ := hparts i l[i] (List.getElem?_eq_getElem hlt)
            have hlow := HUI.out.low hPlt
            have hbw : Below w.heap.size w wr := HB1.out.trans (hlow.mono hsz)
            have HR := hid (show wr.rangeAt g (off + i * 46) y.cs.toList from fun j v hv => (hbw.cell (p := ⟨g, off + i * 46 + j, none⟩) (HFW.out g hgF)).trans (hr j v hv))
            have hb1 : Below w.heap.size w (wr.alloc (.cells y.cs 65)) := hbw.alloc hbw.size _
            have hy1 := hy.below HFW.out hb1
            have hy2 : ItG (fun g => g < P) (wr.alloc (.cells y.cs 65)) l[i] y := ⟨hy1.k, hy1.nm, hy1.r.frame (fun g hg => by have := HFW.out g hg; omega) (fun _ _ _ => rfl), MpG.frame (fun g hg => by have := HFW.out g hg; omega) (fun _ _ _ => rfl) hy1.m, hy1.o, hy1.b, hy1.ar, hy1.l.frame (fun g hg => by have := HFW.out g hg; omega) (fun _ _ _ => rfl), hy1.q.frame (fun g hg => by have := HFW.out g hg; omega) (fun _ _ _ => rfl)⟩
            have hdl : dF (l.take i) ≤ 1000000 := dF_le fun x hx => HDD.out x (List.mem_of_mem_take hx)
            have hfl := flat_take (f := itemW setS) hlt
            have hit := item_any (RtIt.of (all_mem HALL.out hlt)) (HS.out _ (List.getElem_mem hlt)) hy2 (HWI.out.alloc _) hdl (HDD.out _ (List.getElem_mem hlt)) (by have := HLL.out; omega)
            have HD2 := hid (show max (dF (l.take i)) (itemD l[i]) = dF (l.take (i + 1)) by rw [take_snoc hlt, dF_snoc])
            have HF2 := hid (show (l.take i).flatMap (itemW setS) ++ itemW setS l[i] = (l.take (i + 1)).flatMap (itemW setS) by rw [take_snoc hlt, List.flatMap_append, List.flatMap_cons, List.flatMap_nil, List.append_nil])
            have HU2 := hid (HUI.out.alloc (.cells y.cs 65))
            have hgi : (i : Int) < (l.length : Int) := by omega
            clear hparts hr hy hy1 hy2 hb1 hbw hgF hlow hdl hfl
            go_wp2_with (first | (refine wpList_load_part 65 (.tmp 28) rfl (by kernel_rfl) g (off + i * 46) rfl y.cs _ HR.out Tryz.underlying65 rfl 46 info46 rfl ?_) | (refine wpList_store_newN rfl 65 (.tmp 8) (.tmp 29) rfl 46 info46 65 itZ rfl y.cs wr.heap.size rfl rfl rfl (itC_size _ _ _ _ _ _ _ _ _) (itC_one _ _ _ _ _ _ _ _ _) ?_) | (refine wpList_load_blk rfl 65 (.tmp 8) rfl 46 info46 _ Tryz.underlying65 rfl wr.heap.size rfl 65 y.cs (heap_alloc_new _ _) rfl ?_) | (go_at_call 40; refine hit.mono ?_; clear hit; rintro e w2 ⟨rfl, hw2, hu2⟩; have HW2 := hid hw2; have HV2 := hid hu2; clear hw2 hu2))
            go_roundw
            case rel => exact ⟨i + 1, by omega, by go_num, hid (HW2.out.eq HD2.out HF2.out), hid (HU2.out.trans HV2.out)⟩
            case measure => simp [RowKit.intOf]; omega
          · obtain rfl : i = l.length := by omega
            have htx := text_any HWI.out
            rw [List.take_length] at htx
            have hlow := hid (HUI.out.low hPlt)
            clear hlt
            go_wp2_with (go_at_call 41; refine htx.mono ?_; clear htx; rintro e W4 ⟨rfl, rfl⟩)
            go_ret2
            rw [HE3.out]
            exact ⟨rfl, HB1.out.trans (hlow.out.mono hsz)⟩
end Go.Proofs.YtfljcfdfgojdoaaGreatDoor.Sh
