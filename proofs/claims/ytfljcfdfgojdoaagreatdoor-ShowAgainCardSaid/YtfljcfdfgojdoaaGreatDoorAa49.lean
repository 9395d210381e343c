/-
  show.File as it is.
  What the parser tells of a fault is ErrForm or ErrDeep: its loops and its depth never run out of fuel; no program in sight.
-/
import Derived.Test.YtfljcfdfgojdoaaGreatDoorAa47
import Derived.Test.YtfljcfdfgojdoaaGreatDoorAa48
import Derived.Test.YtfljcfdfgojdoaaGreatDoorAa42
namespace Go.Proofs.YtfljcfdfgojdoaaGreatDoor.Sh
open Go.RowKit Go.Lib Go.Proofs.YtfljcfdfgojdoaaGreatDoor

theorem item_any {P : Nat} {x : It} {y : Iw} {w : World} {m : Nat} {l : List B} (hx : RtIt x) (hs : SeIt x) (hG : ItG (fun g => g < P) w x y) (hW : SW P w 0 m l) (hm : m ≤ 1000000) (hD : itemD x ≤ 1000000) (hL : l.length + (itemW setS x).length ≤ 1099511627776) :
    Calls Tryz.prog 40 #[ptrV P, .agg y.cs] w (WPost P w 0 (max m (itemD x)) (l ++ itemW setS x)) := by
  have bne : ∀ {b : List B}, nameOk b = true → b ≠ [] := fun h => by
    obtain ⟨c, r, rfl, _⟩ := name_of (nameOk_iff.1 h)
    simp
  cases hx with
  | named k s r hk _ hr =>
    rcases hk with rfl | rfl
    · exact item_def hr hs.r hG hW hm hD hL
    · exact item_token hr hs.r hG hW hm hD hL
  | map s r _ hr => exact item_map hr hs.m hG hW hm hD hL
  | rule r o b hr ho hb =>
    by_cases h : b = []
    · subst h; exact item_rule_out hr hs.r ho hG hW hm hD hL
    · obtain ⟨rfl, _⟩ := hb.resolve_left h
      exact item_rule_by hr hs.r h hG hW hm hD hL
  | around r o b q1 q2 hr ho hb h1 h2 =>
    by_cases h : b = []
    · subst h; exact item_rule_out_around hr hs.r ho h1 hs.l h2 hs.q hG hW hm hD hL
    · obtain ⟨rfl, _⟩ := hb.resolve_left h
      exact item_rule_by_around hr hs.r h h1 hs.l h2 hs.q hG hW hm hD hL
def dF (l : List It) : Nat := (l.map itemD).foldl max 0
theorem dF_snoc (l : List It) (x : It) : dF (l ++ [x]) = max (dF l) (itemD x) := by unfold dF; simp
theorem foldl_max_le {B : Nat} : ∀ (l : List Nat) (a : Nat), a ≤ B → (∀ x ∈ l, x ≤ B) → l.foldl max a ≤ B
  | [], _, h, _ => h
  | x :: l, a, h, hl => foldl_max_le l (max a x) (by have := hl x List.mem_cons_self; omega) fun y hy => hl y (List.mem_cons_of_mem _ hy)
theorem dF_le {B : Nat} {l : List It} (h : ∀ x ∈ l, itemD x ≤ B) : dF l ≤ B :=
  foldl_max_le _ _ (Nat.zero_le _) fun y hy => by
    obtain ⟨x, hx, rfl⟩ := List.mem_map.1 hy
    exact h x hx
theorem flat_take {f : It → List B} : ∀ {l : List It} {i : Nat} (h : i < l.length), ((l.take i).flatMap f).length + (f l[i]).length ≤ (l.flatMap f).length
  | x :: l, 0, _ => by simp [List.flatMap_cons]
  | x :: l, i + 1, h => by
    have h' : i < l.length := by simpa using h
    have := flat_take (f := f) h'
    simp only [List.take_succ_cons, List.flatMap_cons, List.length_append, List.getElem_cons_succ]
    omega
theorem all_take {l : List It} {i : Nat} (h : i < l.length) (ha : (l.take i).all itX = true) (hx : itX l[i] = true) : (l.take (i + 1)).all itX = true := by
  rw [take_snoc h, List.all_append, ha]
  simp [hx]
theorem all_not {l : List It} {i : Nat} (h : i < l.length) (hx : itX l[i] = false) : l.all itX = false := by
  rw [List.all_eq_false]
  exact ⟨l[i], List.getElem_mem h, by rw [hx]; decide⟩
theorem all_mem {l : List It} (h : l.all itX = true) {i : Nat} (hi : i < l.length) : itX l[i] = true := List.all_eq_true.1 h _ (List.getElem_mem hi)
set_option maxRecDepth 100000 in
set_option maxHeartbeats 4000000 in
theorem showFile_any {F : Nat → Prop} {l : List It} {ad : Option Addr} {cap : Nat} {w : World} (hFw : ∀ g, F g → g < w.heap.size) (hl : ItsR F w l ad) (ht : ∀ x ∈ l, TxIt x) (hs : ∀ x ∈ l, SeIt x)
    (hD : l.all itX = true → l.length ≤ 256 → ∀ x ∈ l, itemD x ≤ 1000000) (hL : l.all itX = true → l.length ≤ 256 → (l.flatMap (itemW setS)).length ≤ 1099511627776) :
    Calls Tryz.prog 12 #[.slice ad l.length cap] w (TextPost w (showFile l)) := by
  have HFW := hid hFw
  have HI := hid hl
  have HT := hid ht
  have HS := hid hs
  have hlen : l.length ≤ 9223372036854775807 := by have := hl.len; unfold maxLen at this; omega
  by_cases h256 : 256 < l.length
  · have HE := hid (show showFile l = ([], 2) by unfold showFile; rw [if_pos h256])
    have hgt : (256 : Int) < (l.length : Int) := by omega
    clear hFw hl ht hs hD hL
    go_enter Tryz.func12, Tryz.ntmps12
    go_wp2
    go_ret2
    rw [HE.out]
    exact ⟨rfl, Below.refl _ _⟩
  · have hgt : ¬ ((256 : Int) < (l.length : Int)) := by omega
    have HE := hid (show showFile l = if l.all itX = true then endM (l.flatMap (itemW setS)) (dF l) else ([], 1) by unfold showFile; rw [if_neg h256]; rfl)
    have HB := hid (show l.all itX = true → (∀ x ∈ l, itemD x ≤ 1000000) ∧ (l.flatMap (itemW setS)).length ≤ 1099511627776 from fun h => ⟨hD h (by omega), hL h (by omega)⟩)
    clear hFw hl ht hs hD hL
    go_enter Tryz.func12, Tryz.ntmps12
    go_wp2
    go_loopw [14] (fun v wr => ∃ i : Nat, i ≤ l.length ∧ v = .int .i64 i ∧ Hid ((l.take i).all itX = true) ∧ Below w.heap.size w wr) (fun v _ => l.length - (RowKit.intOf v).toNat)
    case atStart => exact ⟨0, Nat.zero_le _, rfl, hid rfl, Below.refl _ _⟩
    case round =>
      obtain ⟨i, hi, rfl, HA, hb⟩ := hrel
      have hsz := hb.size
      have HBW := hid hb
      clear hb
      by_cases hlt : i < l.length
      · obtain ⟨g, off, rfl, hgF, hparts⟩ := HI.out.at' (by rintro rfl; simp at hlt)
        obtain ⟨y, hy, hr⟩ := hparts i l[i] (List.getElem?_eq_getElem hlt)
        have HR := hid (show wr.rangeAt g (off + i * 46) y.cs.toList from fun j v hv => (HBW.out.cell (p := ⟨g, off + i * 46 + j, none⟩) (HFW.out g hgF)).trans (hr j v hv))
        have hb1 : Below w.heap.size w (wr.alloc (.cells y.cs 65)) := HBW.out.alloc hsz _
        have hsz1 : (wr.alloc (.cells y.cs 65)).heap.size = wr.heap.size + 1 := by simp
        have hy1 := hy.below HFW.out hb1
        have htx := HT.out l[i] (List.getElem_mem hlt)
        have hri := rightItem_any (w := wr.alloc (.cells y.cs 65)) (fun g hg => by have := HFW.out g hg; omega) hy1 htx.r htx.l htx.q htx.m htx.n htx.b
        rw [itB_same hy1] at hri
        have HB1 := hid hb1
        have HSZ1 := hid hsz1
        have hgi : (i : Int) < (l.length : Int) := by omega
        clear hparts hr hy hy1 htx hb1 hsz1 hgF
        rcases Bool.eq_false_or_eq_true (itX l[i]) with hx | hx
        · have HA2 := hid (all_take hlt HA.out hx)
          rw [hx] at hri
          clear hx
          go_wp2_with (first | (refine wpList_load_part 65 (.tmp 16) rfl (by kernel_rfl) g (off + i * 46) rfl y.cs _ HR.out Tryz.underlying65 rfl 46 info46 rfl ?_) | (refine wpList_store_newN rfl 65 (.tmp 5) (.tmp 17) rfl 46 info46 65 itZ rfl y.cs wr.heap.size rfl rfl rfl (itC_size _ _ _ _ _ _ _ _ _) (itC_one _ _ _ _ _ _ _ _ _) ?_) | (refine wpList_load_blk rfl 65 (.tmp 5) rfl 46 info46 _ Tryz.underlying65 rfl wr.heap.size rfl 65 y.cs (heap_alloc_new _ _) rfl ?_) | (go_at_call 39; refine hri.mono ?_; clear hri; rintro e w2 ⟨rfl, hb2⟩))
          go_roundw
          case rel => exact ⟨i + 1, by omega, by go_num, HA2, HB1.out.trans (hb2.mono HB1.out.size)⟩
          case measure => simp [RowKit.intOf]; omega
        · have HE2 := hid (show showFile l = ([], 1) by rw [HE.out, all_not hlt hx]; rfl)
          rw [hx] at hri
          clear hx
          go_wp2_with (first | (refine wpList_load_part 65 (.tmp 16) rfl (by kernel_rfl) g (off + i * 46) rfl y.cs _ HR.out Tryz.underlying65 rfl 46 info46 rfl ?_) | (refine wpList_store_newN rfl 65 (.tmp 5) (.tmp 17) rfl 46 info46 65 itZ rfl y.cs wr.heap.size rfl rfl rfl (itC_size _ _ _ _ _ _ _ _ _) (itC_one _ _ _ _ _ _ _ _ _) ?_) | (refine wpList_load_blk rfl 65 (.tmp 5) rfl 46 info46 _ Tryz.underlying65 rfl wr.heap.size rfl 65 y.cs (heap_alloc_new _ _) rfl ?_) | (go_at_call 39; refine hri.mono ?_; clear hri; rintro e w2 ⟨rfl, hb2⟩))
          go_ret2
          rw [HE2.out]
          exact ⟨rfl, HB1.out.trans (hb2.mono HB1.out.size)⟩
      · obtain rfl : i = l.length := by omega
        have hall : l.all itX = true := by have := HA.out; rwa [List.take_length] at this
        have HALL := hid hall
        have HE3 := hid (show showFile l = endM (l.flatMap (itemW setS)) (dF l) by rw [HE.out, if_pos hall])
        obtain ⟨hD, hL⟩ := HB.out hall
        have HDD := hid hD
        have HLL := hid hL
        clear hall hD hL HA hlt
        go_upto_region 10 with fail
        have hP : (wr.alloc (.cells #[.int .i64 0, .int .i64 0, .slice none 0 0] 75)).heap[wr.heap.size]? = some (.cells #[.int .i64 0, .int .i64 0, .slice none 0 0] 75 (0, 0)) := heap_alloc_new _ _
        have HB1 := hid (HBW.out.alloc hsz (.cells #[.int .i64 0, .int .i64 0, .slice none 0 0] 75))
        have HSW := hid (sw_new hP)
        have hPlt := lt_of_heap hP
        clear hP
        generalize wr.alloc (.cells #[.int .i64 0, .int .i64 0, .slice none 0 0] 75) = W1 at *
        generalize wr.heap.size = P at *
        go_wp2
        go_loopw [26] (fun v wr => ∃ i : Nat, i ≤ l.length ∧ v = .int .i64 i ∧ Hid (SW P wr 0 (dF (l.take i)) ((l.take i).flatMap (itemW setS))) ∧ Hid (Upd P W1 wr)) (fun v _ => l.length - (RowKit.intOf v).toNat)
        case atStart => exact ⟨0, Nat.zero_le _, rfl, hid (by rw [List.take_zero]; exact HSW.out), hid (Upd.refl _ _)⟩
        case round =>
          obtain ⟨i, hi, rfl, HWI, HUI⟩ := hrel
          by_cases hlt : i < l.length
          · obtain ⟨g, off, rfl, hgF, hparts⟩ := HI.out.at' (by rintro rfl; simp at hlt)
            obtain ⟨y, hy, hr⟩ := hparts i l[i] (List.getElem?_eq_getElem hlt)
            have hlow := HUI.out.low hPlt
            have hbw : Below w.heap.size w wr := HB1.out.trans (hlow.mono hsz)
            have HR := hid (show wr.rangeAt g (off + i * 46) y.cs.toList from fun j v hv => (hbw.cell (p := ⟨g, off + i * 46 + j, none⟩) (HFW.out g hgF)).trans (hr j v hv))
            have hb1 : Below w.heap.size w (wr.alloc (.cells y.cs 65)) := hbw.alloc hbw.size _
            have hy1 := hy.below HFW.out hb1
            have hy2 : ItG (fun g => g < P) (wr.alloc (.cells y.cs 65)) l[i] y := ⟨hy1.k, hy1.nm, hy1.r.frame (fun g hg => by have := HFW.out g hg; omega) (fun _ _ _ => rfl), MpG.frame (fun g hg => by have := HFW.out g hg; omega) (fun _ _ _ => rfl) hy1.m, hy1.o, hy1.b, hy1.ar, hy1.l.frame (fun g hg => by have := HFW.out g hg; omega) (fun _ _ _ => rfl), hy1.q.frame (fun g hg => by have := HFW.out g hg; omega) (fun _ _ _ => rfl)⟩
            have hdl : dF (l.take i) ≤ 1000000 := dF_le fun x hx => HDD.out x (List.mem_of_mem_take hx)
            have hfl := flat_take (f := itemW setS) hlt
            have hit := item_any (RtIt.of (all_mem HALL.out hlt)) (HS.out _ (List.getElem_mem hlt)) hy2 (HWI.out.alloc _) hdl (HDD.out _ (List.getElem_mem hlt)) (by have := HLL.out; omega)
            have HD2 := hid (show max (dF (l.take i)) (itemD l[i]) = dF (l.take (i + 1)) by rw [take_snoc hlt, dF_snoc])
            have HF2 := hid (show (l.take i).flatMap (itemW setS) ++ itemW setS l[i] = (l.take (i + 1)).flatMap (itemW setS) by rw [take_snoc hlt, List.flatMap_append, List.flatMap_cons, List.flatMap_nil, List.append_nil])
            have HU2 := hid (HUI.out.alloc (.cells y.cs 65))
            have hgi : (i : Int) < (l.length : Int) := by omega
            clear hparts hr hy hy1 hy2 hb1 hbw hgF hlow hdl hfl
            go_wp2_with (first | (refine wpList_load_part 65 (.tmp 28) rfl (by kernel_rfl) g (off + i * 46) rfl y.cs _ HR.out Tryz.underlying65 rfl 46 info46 rfl ?_) | (refine wpList_store_newN rfl 65 (.tmp 8) (.tmp 29) rfl 46 info46 65 itZ rfl y.cs wr.heap.size rfl rfl rfl (itC_size _ _ _ _ _ _ _ _ _) (itC_one _ _ _ _ _ _ _ _ _) ?_) | (refine wpList_load_blk rfl 65 (.tmp 8) rfl 46 info46 _ Tryz.underlying65 rfl wr.heap.size rfl 65 y.cs (heap_alloc_new _ _) rfl ?_) | (go_at_call 40; refine hit.mono ?_; clear hit; rintro e w2 ⟨rfl, hw2, hu2⟩; have HW2 := hid hw2; have HV2 := hid hu2; clear hw2 hu2))
            go_roundw
            case rel => exact ⟨i + 1, by omega, by go_num, hid (HW2.out.eq HD2.out HF2.out), hid (HU2.out.trans HV2.out)⟩
            case measure => simp [RowKit.intOf]; omega
          · obtain rfl : i = l.length := by omega
            have htx := text_any HWI.out
            rw [List.take_length] at htx
            have hlow := hid (HUI.out.low hPlt)
            clear hlt
            go_wp2_with (go_at_call 41; refine htx.mono ?_; clear htx; rintro e W4 ⟨rfl, rfl⟩)
            go_ret2
            rw [HE3.out]
            exact ⟨rfl, HB1.out.trans (hlow.out.mono hsz)⟩
end Go.Proofs.YtfljcfdfgojdoaaGreatDoor.Sh

namespace Go.Proofs.YtfljcfdfgojdoaaGreatDoor
open Go.Lib

/-- a function of the parser goes on by a token at least, and what it tells of a fault is 4 or 8 -/
def PErr (L : Nat) (D : Nat → Prop) (part : Nat → Nat → R) : Prop :=
  ∀ a dep, a ≤ L → dep ≤ 32 → D dep → match part a dep with | .error (_, y) => y = 4 ∨ y = 8 | .ok (_, a1) => a < a1 ∧ a1 ≤ L
theorem PErr.bad {L : Nat} {D : Nat → Prop} {part : Nat → Nat → R} (h : PErr L D part) {a dep : Nat} (ha : a ≤ L) (hd : dep ≤ 32) (hD : D dep) {p y : Int} (hx : part a dep = .error (p, y)) : y = 4 ∨ y = 8 := by
  have := h a dep ha hd hD; rw [hx] at this; exact this
theorem PErr.good {L : Nat} {D : Nat → Prop} {part : Nat → Nat → R} (h : PErr L D part) {a dep : Nat} (ha : a ≤ L) (hd : dep ≤ 32) (hD : D dep) {r : Re} {a1 : Nat} (hx : part a dep = .ok (r, a1)) : a < a1 ∧ a1 ≤ L := by
  have := h a dep ha hd hD; rw [hx] at this; exact this
theorem PErr.mk {L : Nat} {D : Nat → Prop} {part : Nat → Nat → R} (h1 : ∀ a dep p y, a ≤ L → dep ≤ 32 → D dep → part a dep = .error (p, y) → y = 4 ∨ y = 8) (h2 : ∀ a dep r a1, a ≤ L → dep ≤ 32 → D dep → part a dep = .ok (r, a1) → a < a1 ∧ a1 ≤ L) : PErr L D part := by
  intro a dep ha hd hD
  rcases hx : part a dep with ⟨p, y⟩ | ⟨r, a1⟩
  · exact h1 a dep p y ha hd hD hx
  · exact h2 a dep r a1 ha hd hD hx
section
variable {T : List Tok} {L : Nat} (hL : (tokAt T L).kind = 0)
include hL
theorem tkLt {a : Nat} (ha : a ≤ L) (hk : (tokAt T a).kind ≠ 0) : a + 1 ≤ L := by
  rcases Nat.lt_or_eq_of_le ha with hl | rfl
  · exact hl
  · exact absurd hL hk
omit hL in
theorem name_err {a : Nat} {p y : Int} (h : nameM T a = .error (p, y)) : y = 4 := by
  unfold nameM at h
  simp only at h
  split at h
  · cases h; rfl
  · split at h
    · cases h; rfl
    · cases h
theorem name_next {a a1 : Nat} {s : List B} (ha : a ≤ L) (h : nameM T a = .ok (s, a1)) : a < a1 ∧ a1 ≤ L := by
  unfold nameM at h
  simp only at h
  split at h
  · cases h
  · split at h
    · cases h
    · rename_i h2
      cases h
      have hk : (tokAt T a).kind = 1 := by simpa using h2
      exact ⟨Nat.lt_succ_self _, tkLt hL ha (by rw [hk]; decide)⟩
omit hL in
theorem number_err {a : Nat} {lo p y : Int} (h : numberM T a lo = .error (p, y)) : y = 4 := by
  unfold numberM at h
  simp only at h
  split at h
  · cases h; rfl
  · cases h
theorem number_next {a a1 : Nat} {lo v : Int} (ha : a ≤ L) (h : numberM T a lo = .ok (v, a1)) : a < a1 ∧ a1 ≤ L := by
  unfold numberM at h
  simp only at h
  split at h
  · cases h
  · rename_i h1
    cases h
    have hk : (tokAt T a).kind = 5 := by
      have : ¬ ((tokAt T a).kind != 5) = true := fun e => h1 (.inl e)
      simpa using this
    exact ⟨Nat.lt_succ_self _, tkLt hL ha (by rw [hk]; decide)⟩
theorem oftLe {a : Nat} (ha : a ≤ L) : a ≤ (oftenM T a).next ∧ (oftenM T a).next ≤ L := by
  unfold oftenM
  simp only
  split
  · rename_i h1; exact ⟨Nat.le_succ _, tkLt hL ha (isB_kind h1)⟩
  · split
    · rename_i h1; exact ⟨Nat.le_succ _, tkLt hL ha (isB_kind h1)⟩
    · split
      · rename_i h1; exact ⟨Nat.le_succ _, tkLt hL ha (isB_kind h1)⟩
      · exact ⟨Nat.le_refl _, ha⟩
theorem leaf_perr (N : Se) : PErr L (fun _ => True) (fun a _ => leafM N T a) := by
  refine PErr.mk (fun a dep p y ha _ _ h => ?_) (fun a dep r a1 ha _ _ h => ?_)
  · unfold leafM at h
    simp only at h
    split at h
    · cases h
    · split at h
      · cases h
      · split at h
        · rcases hn : nameM T a with ⟨p', y'⟩ | ⟨s, a'⟩
          · rw [hn] at h; cases h; exact .inl (name_err hn)
          · rw [hn] at h; cases h
        · split at h
          · cases h
          · cases h; exact .inl rfl
  · unfold leafM at h
    simp only at h
    split at h
    · rename_i h1
      have hk : (tokAt T a).kind = 2 := by simpa using h1
      cases h
      exact ⟨Nat.lt_succ_self _, tkLt hL ha (by rw [hk]; decide)⟩
    · split at h
      · rename_i h1
        have hk : (tokAt T a).kind = 3 := by simpa using h1
        cases h
        exact ⟨Nat.lt_succ_self _, tkLt hL ha (by rw [hk]; decide)⟩
      · split at h
        · rcases hn : nameM T a with ⟨p', y'⟩ | ⟨s, a'⟩
          · rw [hn] at h; cases h
          · rw [hn] at h; cases h; exact name_next hL ha hn
        · split at h
          · rename_i h1
            cases h
            exact ⟨Nat.lt_succ_self _, tkLt hL ha (isB_kind h1)⟩
          · cases h
theorem atom_perr (N : Se) {D : Nat → Prop} {alt : Nat → Nat → R} (ha0 : PErr L D alt) : PErr L (fun d => D (d + 1)) (atomM N alt T) := by
  refine PErr.mk (fun a dep p y ha hd hD h => ?_) (fun a dep r a1 ha hd hD h => ?_)
  · unfold atomM at h
    split at h
    · rename_i h1
      have hl := tkLt hL ha (isB_kind h1)
      split at h
      · cases h; exact .inr rfl
      · rcases h2 : alt (a + 1) (dep + 1) with ⟨p', y'⟩ | ⟨r', a'⟩
        · rw [h2] at h; cases h; exact ha0.bad hl (by omega) hD h2
        · rw [h2] at h
          simp only at h
          split at h
          · cases h
          · cases h; exact .inl rfl
    · exact (leaf_perr hL N).bad ha hd trivial h
  · unfold atomM at h
    split at h
    · rename_i h1
      have hl := tkLt hL ha (isB_kind h1)
      split at h
      · cases h
      · rcases h2 : alt (a + 1) (dep + 1) with ⟨p', y'⟩ | ⟨r', a'⟩
        · rw [h2] at h; cases h
        · rw [h2] at h
          simp only at h
          obtain ⟨g1, g2⟩ := ha0.good hl (by omega) hD h2
          split at h
          · rename_i h3
            cases h
            exact ⟨by omega, tkLt hL g2 (isB_kind h3)⟩
          · cases h
    · exact (leaf_perr hL N).good ha hd trivial h
theorem rep_perr {D : Nat → Prop} {atom : Nat → Nat → R} (ha0 : PErr L D atom) : PErr L D (repM atom T) := by
  refine PErr.mk (fun a dep p y ha hd hD h => ?_) (fun a dep r a1 ha hd hD h => ?_)
  · unfold repM at h
    rcases h2 : atom a dep with ⟨p', y'⟩ | ⟨r', a'⟩
    · rw [h2] at h; cases h; exact ha0.bad ha hd hD h2
    · rw [h2] at h
      simp only at h
      split at h
      · cases h
      · split at h
        · rcases n1 : numberM T (a' + 1) 0 with ⟨p', y'⟩ | ⟨lo, a3⟩
          · rw [n1] at h; cases h; exact .inl (number_err n1)
          · rw [n1] at h
            simp only at h
            split at h
            · rcases n2 : numberM T (a3 + 1) lo with ⟨p', y'⟩ | ⟨hi, a4⟩
              · rw [n2] at h; cases h; exact .inl (number_err n2)
              · rw [n2] at h
                simp only at h
                split at h
                · cases h
                · cases h; exact .inl rfl
            · split at h
              · cases h
              · cases h; exact .inl rfl
        · cases h
  · unfold repM at h
    rcases h2 : atom a dep with ⟨p', y'⟩ | ⟨r', a'⟩
    · rw [h2] at h; cases h
    · rw [h2] at h
      simp only at h
      obtain ⟨g1, g2⟩ := ha0.good ha hd hD h2
      obtain ⟨o1, o2⟩ := oftLe hL g2
      split at h
      · cases h; exact ⟨by omega, o2⟩
      · split at h
        · rename_i h3
          have hl := tkLt hL g2 (isB_kind h3)
          rcases n1 : numberM T (a' + 1) 0 with ⟨p', y'⟩ | ⟨lo, a3⟩
          · rw [n1] at h; cases h
          · rw [n1] at h
            simp only at h
            obtain ⟨m1, m2⟩ := number_next hL hl n1
            split at h
            · rename_i h4
              have hl4 := tkLt hL m2 (isB_kind h4)
              rcases n2 : numberM T (a3 + 1) lo with ⟨p', y'⟩ | ⟨hi, a4⟩
              · rw [n2] at h; cases h
              · rw [n2] at h
                simp only at h
                obtain ⟨m3, m4⟩ := number_next hL hl4 n2
                split at h
                · rename_i h5
                  cases h
                  exact ⟨by omega, tkLt hL m4 (isB_kind h5)⟩
                · cases h
            · split at h
              · rename_i h5
                cases h
                exact ⟨by omega, tkLt hL m2 (isB_kind h5)⟩
              · cases h
        · cases h; exact ⟨g1, g2⟩
theorem not_perr {D : Nat → Prop} (hup : ∀ d, D d → D (d + 1)) {rep : Nat → Nat → R} (hr : PErr L D rep) : ∀ f, PErr L (fun d => D d ∧ 33 ≤ f + d) (notM rep T f)
  | 0 => fun a dep ha hd hD => by have := hD.2; omega
  | f + 1 => by
    have ih := not_perr hup hr f
    refine PErr.mk (fun a dep p y ha hd hD h => ?_) (fun a dep r a1 ha hd hD h => ?_)
    · rw [notM] at h
      split at h
      · rename_i h1
        have hl := tkLt hL ha (isB_kind h1)
        split at h
        · cases h; exact .inr rfl
        · rcases h2 : notM rep T f (a + 1) (dep + 1) with ⟨p', y'⟩ | ⟨r', a'⟩
          · rw [h2] at h; cases h; exact ih.bad hl (by omega) ⟨hup _ hD.1, by have := hD.2; omega⟩ h2
          · rw [h2] at h; cases h
      · exact hr.bad ha hd hD.1 h
    · rw [notM] at h
      split at h
      · rename_i h1
        have hl := tkLt hL ha (isB_kind h1)
        split at h
        · cases h
        · rcases h2 : notM rep T f (a + 1) (dep + 1) with ⟨p', y'⟩ | ⟨r', a'⟩
          · rw [h2] at h; cases h
          · rw [h2] at h
            cases h
            obtain ⟨g1, g2⟩ := ih.good hl (by omega) ⟨hup _ hD.1, by have := hD.2; omega⟩ h2
            exact ⟨by omega, g2⟩
      · exact hr.good ha hd hD.1 h
omit hL in
theorem catLoop_perr {D : Nat → Prop} {part : Nat → Nat → R} (hp : PErr L D part) {dep : Nat} (hd : dep ≤ 32) (hD : D dep) : ∀ (f : Nat) (l : List Re) (a : Nat), a ≤ L → L < a + f → (∀ p y, catLoop part T dep f l a = .error (p, y) → y = 4 ∨ y = 8) ∧ (∀ r a1, catLoop part T dep f l a = .ok (r, a1) → a ≤ a1 ∧ a1 ≤ L)
  | 0, _, _, h1, h2 => by omega
  | f + 1, l, a, h1, h2 => by
    rw [catLoop]
    split
    · rcases h3 : part a dep with ⟨p', y'⟩ | ⟨r', a'⟩
      · simp only
        exact ⟨fun p y h => by cases h; exact hp.bad h1 hd hD h3, fun r a1 h => by cases h⟩
      · simp only
        obtain ⟨g1, g2⟩ := hp.good h1 hd hD h3
        obtain ⟨i1, i2⟩ := catLoop_perr hp hd hD f (l ++ [r']) a' g2 (by omega)
        exact ⟨i1, fun r a1 h => ⟨by have := (i2 r a1 h).1; omega, (i2 r a1 h).2⟩⟩
    · exact ⟨fun p y h => (by cases h), fun r a1 h => (by cases h; exact ⟨Nat.le_refl _, h1⟩)⟩
omit hL in
theorem cat_perr (hT : L < T.length) {D : Nat → Prop} {part : Nat → Nat → R} (hp : PErr L D part) : PErr L D (catM part T) := by
  refine PErr.mk (fun a dep p y ha hd hD h => ?_) (fun a dep r a1 ha hd hD h => ?_)
  · unfold catM at h
    rcases h3 : part a dep with ⟨p', y'⟩ | ⟨r', a'⟩
    · rw [h3] at h; cases h; exact hp.bad ha hd hD h3
    · rw [h3] at h
      exact (catLoop_perr hp hd hD _ _ a' (hp.good ha hd hD h3).2 (by omega)).1 p y h
  · unfold catM at h
    rcases h3 : part a dep with ⟨p', y'⟩ | ⟨r', a'⟩
    · rw [h3] at h; cases h
    · rw [h3] at h
      obtain ⟨g1, g2⟩ := hp.good ha hd hD h3
      obtain ⟨i1, i2⟩ := (catLoop_perr hp hd hD _ _ a' g2 (by omega)).2 r a1 h
      exact ⟨by omega, i2⟩
theorem rowLoop_perr {D : Nat → Prop} {part : Nat → Nat → R} (hp : PErr L D part) {dep : Nat} (hd : dep ≤ 32) (hD : D dep) (k : Int) (s : List B) : ∀ (f : Nat) (l : List Re) (a : Nat), a ≤ L → L < a + f → (∀ p y, rowLoop part T dep k s f l a = .error (p, y) → y = 4 ∨ y = 8) ∧ (∀ r a1, rowLoop part T dep k s f l a = .ok (r, a1) → a ≤ a1 ∧ a1 ≤ L)
  | 0, _, _, h1, h2 => by omega
  | f + 1, l, a, h1, h2 => by
    rw [rowLoop]
    split
    · rename_i h0
      have hl := tkLt hL h1 (isB_kind h0)
      rcases h3 : part (a + 1) dep with ⟨p', y'⟩ | ⟨r', a'⟩
      · simp only
        exact ⟨fun p y h => by cases h; exact hp.bad hl hd hD h3, fun r a1 h => by cases h⟩
      · simp only
        obtain ⟨g1, g2⟩ := hp.good hl hd hD h3
        obtain ⟨i1, i2⟩ := rowLoop_perr hp hd hD k s f (l ++ [r']) a' g2 (by omega)
        exact ⟨i1, fun r a1 h => ⟨by have := (i2 r a1 h).1; omega, (i2 r a1 h).2⟩⟩
    · exact ⟨fun p y h => (by cases h), fun r a1 h => (by cases h; exact ⟨Nat.le_refl _, h1⟩)⟩
theorem row_perr (hT : L < T.length) {D : Nat → Prop} {part : Nat → Nat → R} (hp : PErr L D part) (k : Int) (s : List B) : PErr L D (rowM k s part T) := by
  refine PErr.mk (fun a dep p y ha hd hD h => ?_) (fun a dep r a1 ha hd hD h => ?_)
  · unfold rowM at h
    rcases h3 : part a dep with ⟨p', y'⟩ | ⟨r', a'⟩
    · rw [h3] at h; cases h; exact hp.bad ha hd hD h3
    · rw [h3] at h
      exact (rowLoop_perr hL hp hd hD k s _ _ a' (hp.good ha hd hD h3).2 (by omega)).1 p y h
  · unfold rowM at h
    rcases h3 : part a dep with ⟨p', y'⟩ | ⟨r', a'⟩
    · rw [h3] at h; cases h
    · rw [h3] at h
      obtain ⟨g1, g2⟩ := hp.good ha hd hD h3
      obtain ⟨i1, i2⟩ := (rowLoop_perr hL hp hd hD k s _ _ a' g2 (by omega)).2 r a1 h
      exact ⟨by omega, i2⟩
theorem alt_perr (hT : L < T.length) (N : Se) : ∀ n, PErr L (fun d => 33 ≤ n + d) (altM N T n)
  | 0 => fun a dep ha hd hD => by simp only at hD; omega
  | n + 1 => by
    have h1 := atom_perr hL N (alt_perr hT N n)
    have h2 := rep_perr hL h1
    have h3 : PErr L (fun d => 33 ≤ n + (d + 1)) (notM (repM (atomM N (altM N T n) T) T) T 40) := fun a dep ha hd hD =>
      not_perr hL (fun d (h : 33 ≤ n + (d + 1)) => (by omega : 33 ≤ n + (d + 1 + 1))) h2 40 a dep ha hd ⟨hD, by omega⟩
    have h4 := row_perr hL hT (row_perr hL hT (cat_perr hT h3) 6 [38]) 5 [124]
    exact fun a dep ha hd hD => h4 a dep ha hd (by simp only at hD ⊢; omega)
end
theorem allL_fault : ∀ (f : Nat) (s : ByteArray) (k : Nat) (acc : List Tok) (p : Nat) (x : Int), k ≤ s.size → s.size < k + f → allL f s k acc = .error (p, x) → x ≠ 0
  | 0, s, k, acc, p, x, h1, h2, _ => by omega
  | f + 1, s, k, acc, p, x, h1, h2, h => by
    have hf := nextL_facts s k h1
    rw [allL] at h
    try simp only at h
    split at h
    · rename_i he
      cases h
      simpa using he
    · rename_i he
      split at h
      · cases h
      · rename_i hk
        have := hf.2 (by simpa using he) (by simpa using hk)
        exact allL_fault f s _ _ p x hf.1 (by omega) h
/-- a fault is one -/
theorem parse_err {s : ByteArray} {p y : Int} (h : parseRe s = .error (p, y)) : y ≠ 0 := by
  unfold parseRe at h
  rcases h1 : allT s with ⟨p', x⟩ | l
  · rw [h1] at h
    cases h
    unfold allT at h1
    split at h1
    · cases h1; decide
    · exact allL_fault _ s 0 [] p' _ (Nat.zero_le _) (by omega) h1
  · rw [h1] at h
    simp only at h
    have hb := bases_of (s := s) (l := l) rfl
    have := alt_perr hb.fin (by rw [hb.len]; omega) notNone 33
    unfold closeM at h
    rcases h2 : altM notNone (toksOf s l) 33 0 0 with ⟨p', y'⟩ | ⟨r', a⟩
    · rw [h2] at h
      cases h
      rcases this.bad (Nat.zero_le _) (by omega) (by show 33 ≤ _; omega) h2 with rfl | rfl <;> decide
    · rw [h2] at h
      simp only at h
      split at h
      · cases h; decide
      · cases h
end Go.Proofs.YtfljcfdfgojdoaaGreatDoor
