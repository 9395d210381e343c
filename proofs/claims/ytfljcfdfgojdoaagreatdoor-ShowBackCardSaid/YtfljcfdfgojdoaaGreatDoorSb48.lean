/-
  rightMap as it is; plain: what it tells, and what may stand in a map.
  show.Re, show.Map: the contracts.
-/
import Derived.Test.YtfljcfdfgojdoaaGreatDoorSb47
namespace Go.Proofs.YtfljcfdfgojdoaaGreatDoor.Sh
open Go.RowKit Go.Lib Go.Proofs.YtfljcfdfgojdoaaGreatDoor

inductive TxMp : Mp → Prop where
  | mk (k : Int) (r : Re) (o : List B) (ps : List Mp) (mn mx : Int) (h : TxRe r) (ho : o.length ≤ 140737488351232) (hp : ∀ p, p ∈ ps → TxMp p) : TxMp (.mk k r o ps mn mx)
theorem TxMp.re {k : Int} {r : Re} {o : List B} {ps : List Mp} {mn mx : Int} (h : TxMp (.mk k r o ps mn mx)) : TxRe r := by cases h; assumption
theorem TxMp.out {k : Int} {r : Re} {o : List B} {ps : List Mp} {mn mx : Int} (h : TxMp (.mk k r o ps mn mx)) : o.length ≤ 140737488351232 := by cases h; assumption
theorem TxMp.part {k : Int} {r : Re} {o : List B} {ps : List Mp} {mn mx : Int} (h : TxMp (.mk k r o ps mn mx)) {p : Mp} (hp : p ∈ ps) : TxMp p := by cases h with | mk _ _ _ _ _ _ h1 h2 h3 => exact h3 p hp
theorem ReG.rn {F : Nat → Prop} {w : World} {r : Re} {y : Rw} (h : ReG F w r y.cs) : y.n ≤ maxLen := by
  obtain ⟨k, x, s, ps, mn, mx⟩ := r
  obtain ⟨ad, cap, e, hl, _⟩ := h.open
  obtain ⟨yk, yx, ⟨a1, a2, a3, a4⟩, yad, yn, ycap, ymn, ymx⟩ := y
  simp only [Rw.cs, reC, Array.mk.injEq, List.cons.injEq, Value.int.injEq, Value.string.injEq, Value.slice.injEq, ByteArray.mk.injEq, true_and, and_true] at e
  obtain ⟨_, _, _, _, _, _, ⟨_, rfl, _⟩, _, _⟩ := e
  exact hl
set_option maxRecDepth 100000 in
set_option maxHeartbeats 1000000 in
theorem rightMap_any : ∀ (m : Nat) (p : Mp), m ≤ 1000 → TxMp p → MRightAt m p
  | 0, p, _, _ => by
    intro F y w hFw h
    have HB := hid ((Below.refl w.heap.size w).alloc (Nat.le_refl _) (.cells y.cs 36))
    have HE := hid (show mrightB 0 p = false by cases p; rfl)
    clear h hFw
    go_enter Tryz.func55, Tryz.ntmps55
    go_wp2
    go_ret
    exact ⟨bool_eq HE.out.symm, HB.out⟩
  | m + 1, .mk k r o ps mn mx, hm, ht => by
    intro F y w hFw h
    obtain ⟨h1, h2, h3, h4, h5, h6, h7, h8⟩ := h.open
    have hs := rightMap_step (y := y) (r := r) (w := w) (m := m) (ps := ps) (F := F) (by omega) (by rw [h3]; exact h7) h6.rn (by rw [h2]; exact ht.out)
      (fun W hW => rightRe_any (fun g hg => Nat.lt_of_lt_of_le (hFw g hg) hW.size) (h6.below hFw hW) ht.re) hFw h3 h8 (fun p hp => rightMap_any m p (by omega) (ht.part hp))
    rw [nodeM_same h] at hs
    exact hs
theorem emptyB_zero {r : Re} (h : emptyB (rwOf r).k (rwOf r).x (rwOf r).s (rwOf r).n (rwOf r).mn (rwOf r).mx = true) : r = Re.zero := by
  obtain ⟨k, x, s, ps, mn, mx⟩ := r
  unfold emptyB rwOf at h
  simp only [Bool.and_eq_true, decide_eq_true_eq] at h
  obtain ⟨rfl, rfl, h3, h4, rfl, rfl⟩ := h
  obtain rfl := noneB_eq h3
  obtain rfl := List.length_eq_zero_iff.1 h4
  rfl
theorem leafr_of {r : Re} (h1 : leafB (rwOf r).k = true) (h2 : okB r = true) : LeafR r := by
  have hr := okB_of h2
  obtain ⟨k, x, s, ps, mn, mx⟩ := r
  rw [show (200 : Nat) = 199 + 1 from rfl] at hr
  unfold OkRe at hr
  obtain ⟨hn, _⟩ := hr
  have hk : levK k = 5 := of_decide_eq_true h1
  generalize hl : ps.length = n at hn
  cases hn with
  | text x h =>
    obtain rfl := List.length_eq_zero_iff.1 hl
    exact .mk 1 x Se.none (.text x h) (.inl rfl)
  | set s =>
    obtain rfl := List.length_eq_zero_iff.1 hl
    exact .mk 2 [] s (.set s) (.inr (.inl rfl))
  | name x h hx =>
    obtain rfl := List.length_eq_zero_iff.1 hl
    exact .mk 3 x Se.none (.name x h hx) (.inr (.inr rfl))
  | cat n h => cases hk
  | alt n h => cases hk
  | and n h => cases hk
  | not => cases hk
  | rep a b h => cases hk
theorem okmB_mk (k : Int) (R : Rw) (o : List B) (ad : Option Addr) (n cap : Nat) (mn mx : Int) (r : Re) : okmB ⟨k, R, o, ad, n, cap, mn, mx⟩ r =
    (if k = 1 then leafB R.k && okB r else if k = 2 then (leafB R.k && okB r) && decide (o.length ≤ 256) else if k = 3 ∨ k = 4 then decide (2 ≤ n)
     else if k = 5 then decide (n = 1) && ((decide (mx = -1) && (decide (mn = 0) || decide (mn = 1))) || (decide (mn = 0) && decide (mx = 1))) else false) := rfl
theorem restM_mk (k : Int) (R : Rw) (o : List B) (ad : Option Addr) (n cap : Nat) (mn mx : Int) : restM ⟨k, R, o, ad, n, cap, mn, mx⟩ =
    (if k = 1 then ⟨k, Rw.zero, o, ad, n, cap, mn, mx⟩ else if k = 2 then ⟨k, Rw.zero, [], ad, n, cap, mn, mx⟩ else if k = 3 ∨ k = 4 then ⟨k, R, o, none, 0, 0, mn, mx⟩
     else if k = 5 then ⟨k, R, o, none, 0, 0, 0, 0⟩ else ⟨k, R, o, ad, n, cap, mn, mx⟩) := rfl
theorem mnode_of {k : Int} {r : Re} {o : List B} {ps : List Mp} {mn mx : Int} (h : nodeM (mwOf (.mk k r o ps mn mx)) r = true) : MNode k r o ps.length mn mx := by
  change nodeM ⟨k, rwOf r, o, none, ps.length, 0, mn, mx⟩ r = true at h
  unfold nodeM at h
  rw [Bool.and_eq_true] at h
  obtain ⟨h1, h2⟩ := h
  rw [okmB_mk] at h1
  rw [restM_mk] at h2
  split at h1
  · rename_i hk
    rw [if_pos hk] at h2
    rw [Bool.and_eq_true] at h1
    unfold emptyMB at h2
    simp only [Bool.and_eq_true, decide_eq_true_eq] at h2
    obtain ⟨_, _, rfl, h3, rfl, rfl⟩ := h2
    rw [h3]
    subst hk
    exact .same r (leafr_of h1.1 h1.2)
  · rename_i hk1
    rw [if_neg hk1] at h2
    split at h1
    · rename_i hk
      rw [if_pos hk] at h2
      simp only [Bool.and_eq_true, decide_eq_true_eq] at h1
      unfold emptyMB at h2
      simp only [Bool.and_eq_true, decide_eq_true_eq] at h2
      obtain ⟨_, _, _, h3, rfl, rfl⟩ := h2
      rw [h3]
      subst hk
      exact .out r o (leafr_of h1.1.1 h1.1.2) h1.2
    · rename_i hk2
      rw [if_neg hk2] at h2
      split at h1
      · rename_i hk
        rw [if_pos hk] at h2
        simp only [decide_eq_true_eq] at h1
        unfold emptyMB at h2
        simp only [Bool.and_eq_true, decide_eq_true_eq] at h2
        obtain ⟨_, h3, rfl, _, rfl, rfl⟩ := h2
        obtain rfl := emptyB_zero h3
        rcases hk with rfl | rfl
        · exact .cat _ h1
        · exact .alt _ h1
      · rename_i hk3
        rw [if_neg hk3] at h2
        split at h1
        · rename_i hk
          rw [if_pos hk] at h2
          simp only [Bool.and_eq_true, Bool.or_eq_true, decide_eq_true_eq] at h1
          unfold emptyMB at h2
          simp only [Bool.and_eq_true, decide_eq_true_eq] at h2
          obtain ⟨_, h3, rfl, _, _, _⟩ := h2
          obtain rfl := emptyB_zero h3
          subst hk
          rw [h1.1]
          refine .rep mn mx ?_
          omega
        · cases h1
theorem okMp_of : ∀ {n : Nat} {r : Mp}, mrightB n r = true → OkMp n r
  | 0, r, h => by cases r; cases h
  | n + 1, .mk k r o ps mn mx, h => by
    rw [mrightB, Bool.and_eq_true] at h
    unfold OkMp
    exact ⟨mnode_of h.1, fun p hp => okMp_of (List.all_eq_true.1 h.2 p hp)⟩
theorem leafr_to {r : Re} (h : LeafR r) : leafB (rwOf r).k = true ∧ okB r = true := by
  obtain ⟨k, x, s, hn, hk⟩ := h
  refine ⟨?_, okRe_okB (n := 1) (by unfold OkRe; exact ⟨hn, fun p hp => by simp at hp⟩) (by decide)⟩
  show leafB k = true
  rcases hk with rfl | rfl | rfl <;> rfl
theorem mnode_to {k : Int} {r : Re} {o : List B} {ps : List Mp} {mn mx : Int} (h : MNode k r o ps.length mn mx) : nodeM (mwOf (.mk k r o ps mn mx)) r = true := by
  show nodeM ⟨k, rwOf r, o, none, ps.length, 0, mn, mx⟩ r = true
  unfold nodeM
  rw [okmB_mk, restM_mk]
  generalize ps.length = n at h ⊢
  cases h with
  | same r h =>
    obtain ⟨h1, h2⟩ := leafr_to h
    rw [if_pos rfl, if_pos rfl, h1, h2]; rfl
  | out r o h ho =>
    obtain ⟨h1, h2⟩ := leafr_to h
    rw [if_neg (by decide), if_pos rfl, if_neg (by decide), if_pos rfl, h1, h2, decide_eq_true ho]; rfl
  | cat n h =>
    rw [if_neg (by decide), if_neg (by decide), if_pos (by decide), if_neg (by decide), if_neg (by decide), if_pos (by decide), decide_eq_true h]; rfl
  | alt n h =>
    rw [if_neg (by decide), if_neg (by decide), if_pos (by decide), if_neg (by decide), if_neg (by decide), if_pos (by decide), decide_eq_true h]; rfl
  | rep a b h =>
    rw [if_neg (by decide), if_neg (by decide), if_neg (by decide), if_pos rfl, if_neg (by decide), if_neg (by decide), if_neg (by decide), if_pos rfl]
    rcases h with ⟨rfl, rfl⟩ | ⟨rfl, rfl⟩ | ⟨rfl, rfl⟩ <;> rfl
theorem okMp_to : ∀ {n : Nat} {r : Mp}, OkMp n r → ∀ m, n ≤ m → mrightB m r = true
  | 0, r, h, _, _ => by simp [OkMp] at h
  | n + 1, .mk k r o ps mn mx, h, 0, hm => by omega
  | n + 1, .mk k r o ps mn mx, h, m + 1, hm => by
    unfold OkMp at h
    rw [mrightB, mnode_to h.1, Bool.true_and]
    exact List.all_eq_true.2 fun p hp => okMp_to (h.2 p hp) m (by omega)
end Go.Proofs.YtfljcfdfgojdoaaGreatDoor.Sh

namespace Go.Proofs.YtfljcfdfgojdoaaGreatDoor.Sh
open Go.RowKit Go.Lib Go.Proofs.YtfljcfdfgojdoaaGreatDoor

/-- what show.Re tells -/
def showRe (r : Re) : List B × Int := if checkM r = 0 then endM (reW setS r) (reD r) else ([], checkM r)
/-- what show.Map tells -/
def showMp (m : Mp) : List B × Int := if mrightB 200 m = true then endM (mpW setS m) (mpD m) else ([], 1)
def TextPost (w : World) (x : List B × Int) (e : Ending) (w' : World) : Prop := e = .returned (.tuple #[.string ⟨x.1.toArray⟩, .int .i64 x.2]) ∧ Below w.heap.size w w'
theorem sw_new {w : World} {P : Nat} (h : w.heap[P]? = some (.cells #[.int .i64 0, .int .i64 0, .slice none 0 0] 75 (0, 0))) : SW P w 0 0 [] :=
  ⟨_, h, World.ownsRow_nil _ _ _ _⟩
theorem checkM_ne {r : Re} (h : checkM r ≠ 0) : (checkM r != 0) = true := by simpa using h
set_option maxRecDepth 100000 in
set_option maxHeartbeats 1000000 in
theorem showRe_any {F : Nat → Prop} {r : Re} {cs : Array Value} {w : World} (hFw : ∀ g, F g → g < w.heap.size) (hG : ReG F w r cs) (ht : TxRe r) (hs : SeRe r) (hD : checkM r = 0 → reD r ≤ 1000000) (hL : checkM r = 0 → (reW setS r).length ≤ 1099511627776) :
    Calls Tryz.prog 17 #[.agg cs] w (TextPost w (showRe r)) := by
  obtain ⟨k, x, s, ad, n, cap, mn, mx, rfl⟩ := hG.cells
  have hb0 : Below w.heap.size w (w.alloc (.cells (reC k x s (.slice ad n cap) mn mx) 33)) := (Below.refl _ w).alloc (Nat.le_refl _) _
  have hsz : (w.alloc (.cells (reC k x s (.slice ad n cap) mn mx) 33)).heap.size = w.heap.size + 1 := by simp
  have hblk : (w.alloc (.cells (reC k x s (.slice ad n cap) mn mx) 33)).heap[w.heap.size]? = some (.cells (reC k x s (.slice ad n cap) mn mx) 33 (0, 0)) := heap_alloc_new _ _
  have hc := check_any (w := w.alloc (.cells (reC k x s (.slice ad n cap) mn mx) 33)) (fun g hg => by have := hFw g hg; omega) (hG.below hFw hb0) ht
  obtain ⟨c0, c1, c2, c3, c4, c5, c6, c7, c8⟩ := nine_of hblk
  have HB := hid hb0
  have HBK := hid hblk
  have HG := hid hG
  have HFW := hid hFw
  have HSZ := hid hsz
  clear hG hFw hb0 hblk
  by_cases hck : checkM r = 0
  · have HE := hid (show showRe r = endM (reW setS r) (reD r) by unfold showRe; rw [if_pos hck])
    have hok := checkM_zero hck
    have HD := hid (hD hck)
    have HL := hid (hL hck)
    rw [hck] at hc
    have HOK := hid hok
    clear hck hok hD hL
    go_enter Tryz.func17, Tryz.ntmps17
    go_upto_region 1 with fail
    generalize w.alloc (.cells (reC k x s (.slice ad n cap) mn mx) 33) = W0 at *
    go_upto_region 5 with (go_at_call 20; refine hc.mono ?_; clear hc; rintro e W1 ⟨rfl, hb1⟩; have HB1 := hid (HB.out.trans (hb1.mono (by omega))); have hbx1 := (hb1.block w.heap.size (by omega)).trans HBK.out; have HB01 := hid hb1; clear hb1 c0 c1 c2 c3 c4 c5 c6 c7 c8)
    have hP : (W1.alloc (.cells #[.int .i64 0, .int .i64 0, .slice none 0 0] 75)).heap[W1.heap.size]? = some (.cells #[.int .i64 0, .int .i64 0, .slice none 0 0] 75 (0, 0)) := heap_alloc_new _ _
    have hbx2 : (W1.alloc (.cells #[.int .i64 0, .int .i64 0, .slice none 0 0] 75)).heap[w.heap.size]? = _ := (alloc_old (lt_of_heap hbx1)).trans hbx1
    have HB2 := hid (HB1.out.alloc HB1.out.size (.cells #[.int .i64 0, .int .i64 0, .slice none 0 0] 75))
    have hsw := sw_new hP
    have hs1 := HB1.out.size
    obtain ⟨c0, c1, c2, c3, c4, c5, c6, c7, c8⟩ := nine_of hbx2
    generalize hW2 : W1.alloc (.cells #[.int .i64 0, .int .i64 0, .slice none 0 0] 75) = W2 at *
    have hre := re_any (P := W1.heap.size) HOK.out hs ((HG.out.below HFW.out HB2.out).frame (F' := fun g => g < W1.heap.size) (fun g hg => Nat.lt_of_lt_of_le (HFW.out g hg) hs1) (fun _ _ _ => rfl)) hsw (Nat.le_refl 0) (by have := HD.out; omega) (by omega) (by have := HL.out; simpa using this)
    have hPlt := lt_of_heap hP
    clear hbx1 hbx2 hP hsw hW2
    go_upto_region 6 with (go_at_call 50; refine hre.mono ?_; clear hre; rintro e W3 ⟨rfl, hw3, hu3⟩; have HW3 := hid hw3; have HU3 := hid hu3; clear hw3 hu3)
    have htx := text_any HW3.out
    rw [List.nil_append, Nat.zero_add, Nat.max_eq_right (Nat.zero_le _)] at htx
    go_wp2_with (go_at_call 41; refine htx.mono ?_; clear htx; rintro e W4 ⟨rfl, rfl⟩)
    go_ret2
    rw [HE.out]
    exact ⟨rfl, HB2.out.trans ((HU3.out.low hPlt).mono hs1)⟩
  · have HE := hid (show showRe r = ([], checkM r) by unfold showRe; rw [if_neg hck])
    have hne := checkM_ne hck
    clear hck hD hL
    generalize checkM r = c at *
    go_enter Tryz.func17, Tryz.ntmps17
    go_wp2_with (go_at_call 20; refine hc.mono ?_; clear hc; rintro e W1 ⟨rfl, hb1⟩)
    go_ret2
    rw [HE.out]
    exact ⟨rfl, HB.out.trans (hb1.mono (by have := HSZ.out; omega))⟩
set_option maxRecDepth 100000 in
set_option maxHeartbeats 1000000 in
theorem showMp_any {F : Nat → Prop} {r : Mp} {y : Mw} {w : World} (hFw : ∀ g, F g → g < w.heap.size) (hG : MpG F w r y) (ht : TxMp r) (hs : SeMp r) (hD : mrightB 200 r = true → mpD r ≤ 1000000) (hL : mrightB 200 r = true → (mpW setS r).length ≤ 1099511627776) :
    Calls Tryz.prog 21 #[.agg y.cs] w (TextPost w (showMp r)) := by
  have hb0 : Below w.heap.size w (w.alloc (.cells y.cs 36)) := (Below.refl _ w).alloc (Nat.le_refl _) _
  have hsz : (w.alloc (.cells y.cs 36)).heap.size = w.heap.size + 1 := by simp
  have hblk : (w.alloc (.cells y.cs 36)).heap[w.heap.size]? = some (.cells y.cs 36 (0, 0)) := heap_alloc_new _ _
  have hc := rightMap_any 200 r (by decide) ht F y (w.alloc (.cells y.cs 36)) (fun g hg => by have := hFw g hg; omega) (hG.below hFw hb0)
  obtain ⟨c0, c1, c2, c3, c4, c5, c6, c7, c8, c9, c10, c11, c12, c13⟩ := four10_of hblk
  have HB := hid hb0
  have HBK := hid hblk
  have HG := hid hG
  have HFW := hid hFw
  have HSZ := hid hsz
  clear hG hFw hb0 hblk
  rcases Bool.eq_false_or_eq_true (mrightB 200 r) with hck | hck
  · have HE := hid (show showMp r = endM (mpW setS r) (mpD r) by unfold showMp; rw [if_pos hck])
    have hok := okMp_of hck
    have HD := hid (hD hck)
    have HL := hid (hL hck)
    rw [hck] at hc
    have HOK := hid hok
    clear hck hok hD hL
    go_enter Tryz.func21, Tryz.ntmps21
    go_upto_region 1 with fail
    generalize w.alloc (.cells y.cs 36) = W0 at *
    go_upto_region 4 with (go_at_call 55; refine hc.mono ?_; clear hc; rintro e W1 ⟨rfl, hb1⟩; have HB1 := hid (HB.out.trans (hb1.mono (by omega))); have hbx1 := (hb1.block w.heap.size (by omega)).trans HBK.out; have HB01 := hid hb1; clear hb1 c0 c1 c2 c3 c4 c5 c6 c7 c8 c9 c10 c11 c12 c13)
    have hP : (W1.alloc (.cells #[.int .i64 0, .int .i64 0, .slice none 0 0] 75)).heap[W1.heap.size]? = some (.cells #[.int .i64 0, .int .i64 0, .slice none 0 0] 75 (0, 0)) := heap_alloc_new _ _
    have hbx2 : (W1.alloc (.cells #[.int .i64 0, .int .i64 0, .slice none 0 0] 75)).heap[w.heap.size]? = _ := (alloc_old (lt_of_heap hbx1)).trans hbx1
    have HB2 := hid (HB1.out.alloc HB1.out.size (.cells #[.int .i64 0, .int .i64 0, .slice none 0 0] 75))
    have hsw := sw_new hP
    have hs1 := HB1.out.size
    obtain ⟨c0, c1, c2, c3, c4, c5, c6, c7, c8, c9, c10, c11, c12, c13⟩ := four10_of hbx2
    generalize hW2 : W1.alloc (.cells #[.int .i64 0, .int .i64 0, .slice none 0 0] 75) = W2 at *
    have hre := mapping_any (P := W1.heap.size) HOK.out hs ((HG.out.below HFW.out HB2.out).frame (F' := fun g => g < W1.heap.size) (fun g hg => Nat.lt_of_lt_of_le (HFW.out g hg) hs1) (fun _ _ _ => rfl)) hsw (Nat.le_refl 0) (by have := HD.out; omega) (by omega) (by have := HL.out; simpa using this)
    have hPlt := lt_of_heap hP
    clear hbx1 hbx2 hP hsw hW2
    go_upto_region 5 with (go_at_call 56; refine hre.mono ?_; clear hre; rintro e W3 ⟨rfl, hw3, hu3⟩; have HW3 := hid hw3; have HU3 := hid hu3; clear hw3 hu3)
    have htx := text_any HW3.out
    rw [List.nil_append, Nat.zero_add, Nat.max_eq_right (Nat.zero_le _)] at htx
    go_wp2_with (go_at_call 41; refine htx.mono ?_; clear htx; rintro e W4 ⟨rfl, rfl⟩)
    go_ret2
    rw [HE.out]
    exact ⟨rfl, HB2.out.trans ((HU3.out.low hPlt).mono hs1)⟩
  · have HE := hid (show showMp r = ([], 1) by unfold showMp; rw [if_neg (by rw [hck]; simp)])
    rw [hck] at hc
    clear hck hD hL
    go_enter Tryz.func21, Tryz.ntmps21
    go_wp2_with (go_at_call 55; refine hc.mono ?_; clear hc; rintro e W1 ⟨rfl, hb1⟩)
    go_ret2
    rw [HE.out]
    exact ⟨rfl, HB.out.trans (hb1.mono (by have := HSZ.out; omega))⟩
end Go.Proofs.YtfljcfdfgojdoaaGreatDoor.Sh
