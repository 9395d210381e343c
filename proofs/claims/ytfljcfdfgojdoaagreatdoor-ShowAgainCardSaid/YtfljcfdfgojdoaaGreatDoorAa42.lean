/-
  rightMap as it is; plain: what it tells, and what may stand in a map.
  show.Re, show.Map: the contracts.
  Plain: what is written of a map is parsed as it was; how long what is written may be, and how deep.
  ParseBrackets, the plain law: what the parser makes of the texts that the statement lays together; no program in sight.
-/
import Derived.Test.YtfljcfdfgojdoaaGreatDoorAa41
import Derived.Test.YtfljcfdfgojdoaaGreatDoorAa37
namespace Go.Proofs.YtfljcfdfgojdoaaGreatDoor.Sh
open Go.RowKit Go.Lib Go.Proofs.YtfljcfdfgojdoaaGreatDoor

inductive TxMp : Mp → Prop where
  | mk (k : Int) (r : Re) (o : List B) (ps : List Mp) (mn mx : Int) (h : TxRe r) (ho : o.length ≤ 140737488351232) (hp : ∀ p, p ∈ ps → TxMp p) : TxMp (.mk k r o ps mn mx)
theorem TxMp.re {k : Int} {r : Re} {o : List B} {ps : List Mp} {mn mx : Int} (h : TxMp (.mk k r o ps mn mx)) : TxRe r := by cases h; assumption
theorem TxMp.out {k : Int} {r : Re} {o : List B} {ps : List Mp} {mn mx : Int} (h : TxMp (.mk k r o ps mn mx)) : o.length ≤ 140737488351232 := by cases h; assumption
theorem TxMp.part {k : Int} {r : Re} {o : List B} {ps : List Mp} {mn mx : Int} (h : TxMp (.mk k r o ps mn mx)) {p : Mp} (hp : p ∈ ps) : TxMp p := by cases h with | mk _ _ _ _ _ _ h1 h2 h3 => exact h3 p hp
theorem ReG.rn {F : Nat → Prop} {w : World} {r : Re} {y : Rw} (h : ReG F w r y.cs) : y.n ≤ maxLen := by
  obtain ⟨k, x, s, ps, mn, mx⟩ := r
  obtain ⟨ad, cap, e, hl, _⟩ := h.open
  obtain ⟨yk, yx, ⟨a1, a2, a3, a4⟩, yad, yn, ycap, ymn, ymx⟩ := y
  simp only [Rw.cs, reC, Array.mk.injEq, List.cons.injEq, Value.int.injEq, Value.string.injEq, Value.slice.injEq, ByteArray.mk.injEq, true_and, and_true] at e
  obtain ⟨_, _, _, _, _, _, ⟨_, rfl, _⟩, _, _⟩ := e
  exact hl
set_option maxRecDepth 100000 in
set_option maxHeartbeats 1000000 in
theorem rightMap_any : ∀ (m : Nat) (p : Mp), m ≤ 1000 → TxMp p → MRightAt m p
  | 0, p, _, _ => by
    intro F y w hFw h
    have HB := hid ((Below.refl w.heap.size w).alloc (Nat.le_refl _) (.cells y.cs 36))
    have HE := hid (show mrightB 0 p = false by cases p; rfl)
    clear h hFw
    go_enter Tryz.func55, Tryz.ntmps55
    go_wp2
    go_ret
    exact ⟨bool_eq HE.out.symm, HB.out⟩
  | m + 1, .mk k r o ps mn mx, hm, ht => by
    intro F y w hFw h
    obtain ⟨h1, h2, h3, h4, h5, h6, h7, h8⟩ := h.open
    have hs := rightMap_step (y := y) (r := r) (w := w) (m := m) (ps := ps) (F := F) (by omega) (by rw [h3]; exact h7) h6.rn (by rw [h2]; exact ht.out)
      (fun W hW => rightRe_any (fun g hg => Nat.lt_of_lt_of_le (hFw g hg) hW.size) (h6.below hFw hW) ht.re) hFw h3 h8 (fun p hp => rightMap_any m p (by omega) (ht.part hp))
    rw [nodeM_same h] at hs
    exact hs
theorem emptyB_zero {r : Re} (h : emptyB (rwOf r).k (rwOf r).x (rwOf r).s (rwOf r).n (rwOf r).mn (rwOf r).mx = true) : r = Re.zero := by
  obtain ⟨k, x, s, ps, mn, mx⟩ := r
  unfold emptyB rwOf at h
  simp only [Bool.and_eq_true, decide_eq_true_eq] at h
  obtain ⟨rfl, rfl, h3, h4, rfl, rfl⟩ := h
  obtain rfl := noneB_eq h3
  obtain rfl := List.length_eq_zero_iff.1 h4
  rfl
theorem leafr_of {r : Re} (h1 : leafB (rwOf r).k = true) (h2 : okB r = true) : LeafR r := by
  have hr := okB_of h2
  obtain ⟨k, x, s, ps, mn, mx⟩ := r
  rw [show (200 : Nat) = 199 + 1 from rfl] at hr
  unfold OkRe at hr
  obtain ⟨hn, _⟩ := hr
  have hk : levK k = 5 := of_decide_eq_true h1
  generalize hl : ps.length = n at hn
  cases hn with
  | text x h =>
    obtain rfl := List.length_eq_zero_iff.1 hl
    exact .mk 1 x Se.none (.text x h) (.inl rfl)
  | set s =>
    obtain rfl := List.length_eq_zero_iff.1 hl
    exact .mk 2 [] s (.set s) (.inr (.inl rfl))
  | name x h hx =>
    obtain rfl := List.length_eq_zero_iff.1 hl
    exact .mk 3 x Se.none (.name x h hx) (.inr (.inr rfl))
  | cat n h => cases hk
  | alt n h => cases hk
  | and n h => cases hk
  | not => cases hk
  | rep a b h => cases hk
theorem okmB_mk (k : Int) (R : Rw) (o : List B) (ad : Option Addr) (n cap : Nat) (mn mx : Int) (r : Re) : okmB ⟨k, R, o, ad, n, cap, mn, mx⟩ r =
    (if k = 1 then leafB R.k && okB r else if k = 2 then (leafB R.k && okB r) && decide (o.length ≤ 256) else if k = 3 ∨ k = 4 then decide (2 ≤ n)
     else if k = 5 then decide (n = 1) && ((decide (mx = -1) && (decide (mn = 0) || decide (mn = 1))) || (decide (mn = 0) && decide (mx = 1))) else false) := rfl
theorem restM_mk (k : Int) (R : Rw) (o : List B) (ad : Option Addr) (n cap : Nat) (mn mx : Int) : restM ⟨k, R, o, ad, n, cap, mn, mx⟩ =
    (if k = 1 then ⟨k, Rw.zero, o, ad, n, cap, mn, mx⟩ else if k = 2 then ⟨k, Rw.zero, [], ad, n, cap, mn, mx⟩ else if k = 3 ∨ k = 4 then ⟨k, R, o, none, 0, 0, mn, mx⟩
     else if k = 5 then ⟨k, R, o, none, 0, 0, 0, 0⟩ else ⟨k, R, o, ad, n, cap, mn, mx⟩) := rfl
theorem mnode_of {k : Int} {r : Re} {o : List B} {ps : List Mp} {mn mx : Int} (h : nodeM (mwOf (.mk k r o ps mn mx)) r = true) : MNode k r o ps.length mn mx := by
  change nodeM ⟨k, rwOf r, o, none, ps.length, 0, mn, mx⟩ r = true at h
  unfold nodeM at h
  rw [Bool.and_eq_true] at h
  obtain ⟨h1, h2⟩ := h
  rw [okmB_mk] at h1
  rw [restM_mk] at h2
  split at h1
  · rename_i hk
    rw [if_pos hk] at h2
    rw [Bool.and_eq_true] at h1
    unfold emptyMB at h2
    simp only [Bool.and_eq_true, decide_eq_true_eq] at h2
    obtain ⟨_, _, rfl, h3, rfl, rfl⟩ := h2
    rw [h3]
    subst hk
    exact .same r (leafr_of h1.1 h1.2)
  · rename_i hk1
    rw [if_neg hk1] at h2
    split at h1
    · rename_i hk
      rw [if_pos hk] at h2
      simp only [Bool.and_eq_true, decide_eq_true_eq] at h1
      unfold emptyMB at h2
      simp only [Bool.and_eq_true, decide_eq_true_eq] at h2
      obtain ⟨_, _, _, h3, rfl, rfl⟩ := h2
      rw [h3]
      subst hk
      exact .out r o (leafr_of h1.1.1 h1.1.2) h1.2
    · rename_i hk2
      rw [if_neg hk2] at h2
      split at h1
      · rename_i hk
        rw [if_pos hk] at h2
        simp only [decide_eq_true_eq] at h1
        unfold emptyMB at h2
        simp only [Bool.and_eq_true, decide_eq_true_eq] at h2
        obtain ⟨_, h3, rfl, _, rfl, rfl⟩ := h2
        obtain rfl := emptyB_zero h3
        rcases hk with rfl | rfl
        · exact .cat _ h1
        · exact .alt _ h1
      · rename_i hk3
        rw [if_neg hk3] at h2
        split at h1
        · rename_i hk
          rw [if_pos hk] at h2
          simp only [Bool.and_eq_true, Bool.or_eq_true, decide_eq_true_eq] at h1
          unfold emptyMB at h2
          simp only [Bool.and_eq_true, decide_eq_true_eq] at h2
          obtain ⟨_, h3, rfl, _, _, _⟩ := h2
          obtain rfl := emptyB_zero h3
          subst hk
          rw [h1.1]
          refine .rep mn mx ?_
          omega
        · cases h1
theorem okMp_of : ∀ {n : Nat} {r : Mp}, mrightB n r = true → OkMp n r
  | 0, r, h => by cases r; cases h
  | n + 1, .mk k r o ps mn mx, h => by
    rw [mrightB, Bool.and_eq_true] at h
    unfold OkMp
    exact ⟨mnode_of h.1, fun p hp => okMp_of (List.all_eq_true.1 h.2 p hp)⟩
theorem leafr_to {r : Re} (h : LeafR r) : leafB (rwOf r).k = true ∧ okB r = true := by
  obtain ⟨k, x, s, hn, hk⟩ := h
  refine ⟨?_, okRe_okB (n := 1) (by unfold OkRe; exact ⟨hn, fun p hp => by simp at hp⟩) (by decide)⟩
  show leafB k = true
  rcases hk with rfl | rfl | rfl <;> rfl
theorem mnode_to {k : Int} {r : Re} {o : List B} {ps : List Mp} {mn mx : Int} (h : MNode k r o ps.length mn mx) : nodeM (mwOf (.mk k r o ps mn mx)) r = true := by
  show nodeM ⟨k, rwOf r, o, none, ps.length, 0, mn, mx⟩ r = true
  unfold nodeM
  rw [okmB_mk, restM_mk]
  generalize ps.length = n at h ⊢
  cases h with
  | same r h =>
    obtain ⟨h1, h2⟩ := leafr_to h
    rw [if_pos rfl, if_pos rfl, h1, h2]; rfl
  | out r o h ho =>
    obtain ⟨h1, h2⟩ := leafr_to h
    rw [if_neg (by decide), if_pos rfl, if_neg (by decide), if_pos rfl, h1, h2, decide_eq_true ho]; rfl
  | cat n h =>
    rw [if_neg (by decide), if_neg (by decide), if_pos (by decide), if_neg (by decide), if_neg (by decide), if_pos (by decide), decide_eq_true h]; rfl
  | alt n h =>
    rw [if_neg (by decide), if_neg (by decide), if_pos (by decide), if_neg (by decide), if_neg (by decide), if_pos (by decide), decide_eq_true h]; rfl
  | rep a b h =>
    rw [if_neg (by decide), if_neg (by decide), if_neg (by decide), if_pos rfl, if_neg (by decide), if_neg (by decide), if_neg (by decide), if_pos rfl]
    rcases h with ⟨rfl, rfl⟩ | ⟨rfl, rfl⟩ | ⟨rfl, rfl⟩ <;> rfl
theorem okMp_to : ∀ {n : Nat} {r : Mp}, OkMp n r → ∀ m, n ≤ m → mrightB m r = true
  | 0, r, h, _, _ => by simp [OkMp] at h
  | n + 1, .mk k r o ps mn mx, h, 0, hm => by omega
  | n + 1, .mk k r o ps mn mx, h, m + 1, hm => by
    unfold OkMp at h
    rw [mrightB, mnode_to h.1, Bool.true_and]
    exact List.all_eq_true.2 fun p hp => okMp_to (h.2 p hp) m (by omega)
end Go.Proofs.YtfljcfdfgojdoaaGreatDoor.Sh

namespace Go.Proofs.YtfljcfdfgojdoaaGreatDoor.Sh
open Go.RowKit Go.Lib Go.Proofs.YtfljcfdfgojdoaaGreatDoor

/-- what show.Re tells -/
def showRe (r : Re) : List B × Int := if checkM r = 0 then endM (reW setS r) (reD r) else ([], checkM r)
/-- what show.Map tells -/
def showMp (m : Mp) : List B × Int := if mrightB 200 m = true then endM (mpW setS m) (mpD m) else ([], 1)
def TextPost (w : World) (x : List B × Int) (e : Ending) (w' : World) : Prop := e = .returned (.tuple #[.string ⟨x.1.toArray⟩, .int .i64 x.2]) ∧ Below w.heap.size w w'
theorem sw_new {w : World} {P : Nat} (h : w.heap[P]? = some (.cells #[.int .i64 0, .int .i64 0, .slice none 0 0] 75 (0, 0))) : SW P w 0 0 [] :=
  ⟨_, h, World.ownsRow_nil _ _ _ _⟩
theorem checkM_ne {r : Re} (h : checkM r ≠ 0) : (checkM r != 0) = true := by simpa using h
set_option maxRecDepth 100000 in
set_option maxHeartbeats 1000000 in
theorem showRe_any {F : Nat → Prop} {r : Re} {cs : Array Value} {w : World} (hFw : ∀ g, F g → g < w.heap.size) (hG : ReG F w r cs) (ht : TxRe r) (hs : SeRe r) (hD : checkM r = 0 → reD r ≤ 1000000) (hL : checkM r = 0 → (reW setS r).length ≤ 1099511627776) :
    Calls Tryz.prog 17 #[.agg cs] w (TextPost w (showRe r)) := by
  obtain ⟨k, x, s, ad, n, cap, mn, mx, rfl⟩ := hG.cells
  have hb0 : Below w.heap.size w (w.alloc (.cells (reC k x s (.slice ad n cap) mn mx) 33)) := (Below.refl _ w).alloc (Nat.le_refl _) _
  have hsz : (w.alloc (.cells (reC k x s (.slice ad n cap) mn mx) 33)).heap.size = w.heap.size + 1 := by simp
  have hblk : (w.alloc (.cells (reC k x s (.slice ad n cap) mn mx) 33)).heap[w.heap.size]? = some (.cells (reC k x s (.slice ad n cap) mn mx) 33 (0, 0)) := heap_alloc_new _ _
  have hc := check_any (w := w.alloc (.cells (reC k x s (.slice ad n cap) mn mx) 33)) (fun g hg => by have := hFw g hg; omega) (hG.below hFw hb0) ht
  obtain ⟨c0, c1, c2, c3, c4, c5, c6, c7, c8⟩ := nine_of hblk
  have HB := hid hb0
  have HBK := hid hblk
  have HG := hid hG
  have HFW := hid hFw
  have HSZ := hid hsz
  clear hG hFw hb0 hblk
  by_cases hck : checkM r = 0
  · have HE := hid (show showRe r = endM (reW setS r) (reD r) by unfold showRe; rw [if_pos hck])
    have hok := checkM_zero hck
    have HD := hid (hD hck)
    have HL := hid (hL hck)
    rw [hck] at hc
    have HOK := hid hok
    clear hck hok hD hL
    go_enter Tryz.func17, Tryz.ntmps17
    go_upto_region 1 with fail
    generalize w.alloc (.cells (reC k x s (.slice ad n cap) mn mx) 33) = W0 at *
    go_upto_region 5 with (go_at_call 20; refine hc.mono ?_; clear hc; rintro e W1 ⟨rfl, hb1⟩; have HB1 := hid (HB.out.trans (hb1.mono (by omega))); have hbx1 := (hb1.block w.heap.size (by omega)).trans HBK.out; have HB01 := hid hb1; clear hb1 c0 c1 c2 c3 c4 c5 c6 c7 c8)
    have hP : (W1.alloc (.cells #[.int .i64 0, .int .i64 0, .slice none 0 0] 75)).heap[W1.heap.size]? = some (.cells #[.int .i64 0, .int .i64 0, .slice none 0 0] 75 (0, 0)) := heap_alloc_new _ _
    have hbx2 : (W1.alloc (.cells #[.int .i64 0, .int .i64 0, .slice none 0 0] 75)).heap[w.heap.size]? = _ := (alloc_old (lt_of_heap hbx1)).trans hbx1
    have HB2 := hid (HB1.out.alloc HB1.out.size (.cells #[.int .i64 0, .int .i64 0, .slice none 0 0] 75))
    have hsw := sw_new hP
    have hs1 := HB1.out.size
    obtain ⟨c0, c1, c2, c3, c4, c5, c6, c7, c8⟩ := nine_of hbx2
    generalize hW2 : W1.alloc (.cells #[.int .i64 0, .int .i64 0, .slice none 0 0] 75) = W2 at *
    have hre := re_any (P := W1.heap.size) HOK.out hs ((HG.out.below HFW.out HB2.out).frame (F' := fun g => g < W1.heap.size) (fun g hg => Nat.lt_of_lt_of_le (HFW.out g hg) hs1) (fun _ _ _ => rfl)) hsw (Nat.le_refl 0) (by have := HD.out; omega) (by omega) (by have := HL.out; simpa using this)
    have hPlt := lt_of_heap hP
    clear hbx1 hbx2 hP hsw hW2
    go_upto_region 6 with (go_at_call 50; refine hre.mono ?_; clear hre; rintro e W3 ⟨rfl, hw3, hu3⟩; have HW3 := hid hw3; have HU3 := hid hu3; clear hw3 hu3)
    have htx := text_any HW3.out
    rw [List.nil_append, Nat.zero_add, Nat.max_eq_right (Nat.zero_le _)] at htx
    go_wp2_with (go_at_call 41; refine htx.mono ?_; clear htx; rintro e W4 ⟨rfl, rfl⟩)
    go_ret2
    rw [HE.out]
    exact ⟨rfl, HB2.out.trans ((HU3.out.low hPlt).mono hs1)⟩
  · have HE := hid (show showRe r = ([], checkM r) by unfold showRe; rw [if_neg hck])
    have hne := checkM_ne hck
    clear hck hD hL
    generalize checkM r = c at *
    go_enter Tryz.func17, Tryz.ntmps17
    go_wp2_with (go_at_call 20; refine hc.mono ?_; clear hc; rintro e W1 ⟨rfl, hb1⟩)
    go_ret2
    rw [HE.out]
    exact ⟨rfl, HB.out.trans (hb1.mono (by have := HSZ.out; omega))⟩
set_option maxRecDepth 100000 in
set_option maxHeartbeats 1000000 in
theorem showMp_any {F : Nat → Prop} {r : Mp} {y : Mw} {w : World} (hFw : ∀ g, F g → g < w.heap.size) (hG : MpG F w r y) (ht : TxMp r) (hs : SeMp r) (hD : mrightB 200 r = true → mpD r ≤ 1000000) (hL : mrightB 200 r = true → (mpW setS r).length ≤ 1099511627776) :
    Calls Tryz.prog 21 #[.agg y.cs] w (TextPost w (showMp r)) := by
  have hb0 : Below w.heap.size w (w.alloc (.cells y.cs 36)) := (Below.refl _ w).alloc (Nat.le_refl _) _
  have hsz : (w.alloc (.cells y.cs 36)).heap.size = w.heap.size + 1 := by simp
  have hblk : (w.alloc (.cells y.cs 36)).heap[w.heap.size]? = some (.cells y.cs 36 (0, 0)) := heap_alloc_new _ _
  have hc := rightMap_any 200 r (by decide) ht F y (w.alloc (.cells y.cs 36)) (fun g hg => by have := hFw g hg; omega) (hG.below hFw hb0)
  obtain ⟨c0, c1, c2, c3, c4, c5, c6, c7, c8, c9, c10, c11, c12, c13⟩ := four10_of hblk
  have HB := hid hb0
  have HBK := hid hblk
  have HG := hid hG
  have HFW := hid hFw
  have HSZ := hid hsz
  clear hG hFw hb0 hblk
  rcases Bool.eq_false_or_eq_true (mrightB 200 r) with hck | hck
  · have HE := hid (show showMp r = endM (mpW setS r) (mpD r) by unfold showMp; rw [if_pos hck])
    have hok := okMp_of hck
    have HD := hid (hD hck)
    have HL := hid (hL hck)
    rw [hck] at hc
    have HOK := hid hok
    clear hck hok hD hL
    go_enter Tryz.func21, Tryz.ntmps21
    go_upto_region 1 with fail
    generalize w.alloc (.cells y.cs 36) = W0 at *
    go_upto_region 4 with (go_at_call 55; refine hc.mono ?_; clear hc; rintro e W1 ⟨rfl, hb1⟩; have HB1 := hid (HB.out.trans (hb1.mono (by omega))); have hbx1 := (hb1.block w.heap.size (by omega)).trans HBK.out; have HB01 := hid hb1; clear hb1 c0 c1 c2 c3 c4 c5 c6 c7 c8 c9 c10 c11 c12 c13)
    have hP : (W1.alloc (.cells #[.int .i64 0, .int .i64 0, .slice none 0 0] 75)).heap[W1.heap.size]? = some (.cells #[.int .i64 0, .int .i64 0, .slice none 0 0] 75 (0, 0)) := heap_alloc_new _ _
    have hbx2 : (W1.alloc (.cells #[.int .i64 0, .int .i64 0, .slice none 0 0] 75)).heap[w.heap.size]? = _ := (alloc_old (lt_of_heap hbx1)).trans hbx1
    have HB2 := hid (HB1.out.alloc HB1.out.size (.cells #[.int .i64 0, .int .i64 0, .slice none 0 0] 75))
    have hsw := sw_new hP
    have hs1 := HB1.out.size
    obtain ⟨c0, c1, c2, c3, c4, c5, c6, c7, c8, c9, c10, c11, c12, c13⟩ := four10_of hbx2
    generalize hW2 : W1.alloc (.cells #[.int .i64 0, .int .i64 0, .slice none 0 0] 75) = W2 at *
    have hre := mapping_any (P := W1.heap.size) HOK.out hs ((HG.out.below HFW.out HB2.out).frame (F' := fun g => g < W1.heap.size) (fun g hg => Nat.lt_of_lt_of_le (HFW.out g hg) hs1) (fun _ _ _ => rfl)) hsw (Nat.le_refl 0) (by have := HD.out; omega) (by omega) (by have := HL.out; simpa using this)
    have hPlt := lt_of_heap hP
    clear hbx1 hbx2 hP hsw hW2
    go_upto_region 5 with (go_at_call 56; refine hre.mono ?_; clear hre; rintro e W3 ⟨rfl, hw3, hu3⟩; have HW3 := hid hw3; have HU3 := hid hu3; clear hw3 hu3)
    have htx := text_any HW3.out
    rw [List.nil_append, Nat.zero_add, Nat.max_eq_right (Nat.zero_le _)] at htx
    go_wp2_with (go_at_call 41; refine htx.mono ?_; clear htx; rintro e W4 ⟨rfl, rfl⟩)
    go_ret2
    rw [HE.out]
    exact ⟨rfl, HB2.out.trans ((HU3.out.low hPlt).mono hs1)⟩
  · have HE := hid (show showMp r = ([], 1) by unfold showMp; rw [if_neg (by rw [hck]; simp)])
    rw [hck] at hc
    clear hck hD hL
    go_enter Tryz.func21, Tryz.ntmps21
    go_wp2_with (go_at_call 55; refine hc.mono ?_; clear hc; rintro e W1 ⟨rfl, hb1⟩)
    go_ret2
    rw [HE.out]
    exact ⟨rfl, HB.out.trans (hb1.mono (by have := HSZ.out; omega))⟩
end Go.Proofs.YtfljcfdfgojdoaaGreatDoor.Sh

namespace Go.Proofs.YtfljcfdfgojdoaaGreatDoor.Sh
open Go.RowKit Go.Lib Go.Proofs.YtfljcfdfgojdoaaGreatDoor

/-- P8.3: a written map is parsed as it was -/
theorem mp_back {h : Nat} {r : Mp} (hr : OkMp h r) (hs : SeMp r) (hd : mpD r ≤ 32) (hl : (mpW setS r).length ≤ 65536) :
    ∃ l a, allT ⟨(mpW setS r).toArray⟩ = .ok l ∧ mAltM (toksOf ⟨(mpW setS r).toArray⟩ l) 33 0 0 = .ok (r, a) ∧ ((tokAt (toksOf ⟨(mpW setS r).toArray⟩ l) a).kind != 0) = false := by
  have h1 := lex_mp h r hr hs [] [] .nil .nil
  rw [List.append_nil, List.append_nil] at h1
  obtain ⟨ts, h2, h3⟩ := lexes_allT (s := ⟨(mpW setS r).toArray⟩) (ms := mpT r) (by simpa using h1) (by show (mpW setS r).toArray.size ≤ _; simpa using hl)
  have hbb : (mpT r).map Tok.base = mpT r := by
    rw [← h3, List.map_map]
    refine List.map_congr_left fun t _ => ?_
    cases t; rfl
  have hlen : ts.length = (mpT r).length := by rw [← h3]; simp
  have hlast : (tokAt (toksOf ⟨(mpW setS r).toArray⟩ ts) ts.length).kind = 0 := by
    have : tokAt (toksOf ⟨(mpW setS r).toArray⟩ ts) ts.length = endTok ⟨(mpW setS r).toArray⟩ := tokAt_of (by unfold toksOf; simp)
    rw [this]; rfl
  have hTl : (toksOf ⟨(mpW setS r).toArray⟩ ts).length = ts.length + 1 := by unfold toksOf; simp
  have hta : TA (toksOf ⟨(mpW setS r).toArray⟩ ts) 0 (mpT r) := by
    have := ta_of (l := mpT r) (ts := ts) (pre := []) (post := [endTok ⟨(mpW setS r).toArray⟩]) (by rw [h3, hbb])
    simpa [toksOf] using this
  refine ⟨ts, ts.length, h2, ?_, by rw [hlast]; rfl⟩
  generalize toksOf ⟨(mpW setS r).toArray⟩ ts = T at *
  have ea : maskT r 0 = mpT r := by unfold maskT; rw [if_neg (by omega)]
  have ed : maskD r 0 = mpD r := by unfold maskD; rw [if_neg (by omega)]; rfl
  have hg := good_mp T h r hr 0 (by omega) 0 0 32 (by rw [ed]; omega) (by omega) (by rw [ea]; exact hta) (by rw [ea]; omega) (by rw [ea, Nat.zero_add, ← hlen]; exact MNx.ends (.fin hlast))
  rw [ea, Nat.zero_add] at hg
  rw [Mq_alt 32 T, hg, hlen]
-- how deep
theorem reD_le : ∀ (h : Nat) (r : Re), OkRe h r → reD r ≤ 2 * h
  | 0, r, hr => by simp [OkRe] at hr
  | h + 1, .mk k x s ps mn mx, hr => by
    have hr' : Node k x s ps.length mn mx ∧ ∀ p ∈ ps, OkRe h p := by simpa [OkRe] using hr
    have key : ∀ (n : Nat) (l : List Re), (∀ p ∈ l, reD p ≤ 2 * h) → partsD n l ≤ 2 * h + 1 := by
      intro n l
      induction l with
      | nil => intro _; rw [partsD]; omega
      | cons q l ih =>
        intro hl
        rw [partsD]
        have h1 := hl q List.mem_cons_self
        have h2 := ih fun p hp => hl p (List.mem_cons_of_mem _ hp)
        have h3 : (if lev q < n then 1 else 0) ≤ 1 := by split <;> omega
        omega
    have h1 := key (needK k) ps fun p hp => reD_le h p (hr'.2 p hp)
    rw [reD]
    have h2 : (if k = 7 then 1 else 0) ≤ 1 := by split <;> omega
    omega
theorem mpD_le : ∀ (h : Nat) (r : Mp), OkMp h r → mpD r ≤ h
  | 0, r, hr => by simp [OkMp] at hr
  | h + 1, .mk k r o ps mn mx, hr => by
    have hr' : MNode k r o ps.length mn mx ∧ ∀ p ∈ ps, OkMp h p := by simpa [OkMp] using hr
    have key : ∀ (n : Nat) (l : List Mp), (∀ p ∈ l, mpD p ≤ h) → mpartsD n l ≤ h + 1 := by
      intro n l
      induction l with
      | nil => intro _; rw [mpartsD]; omega
      | cons q l ih =>
        intro hl
        rw [mpartsD]
        have h1 := hl q List.mem_cons_self
        have h2 := ih fun p hp => hl p (List.mem_cons_of_mem _ hp)
        have h3 : (if mlev q < n then 1 else 0) ≤ 1 := by split <;> omega
        omega
    rw [mpD]
    exact key (mneedK k) ps fun p hp => mpD_le h p (hr'.2 p hp)
-- how long
mutual
def nodes : Re → Nat
  | .mk _ _ _ ps _ _ => 1 + nodesL ps
def nodesL : List Re → Nat
  | [] => 0
  | r :: l => nodes r + nodesL l
end
theorem setS_len (s : Se) : (setS s).length ≤ 2500 := by
  unfold setS
  split
  · simp
  · unfold setP
    have h1 := rows_len (rowsTo (fun b => !hasS s b) 256)
    have h2 := rows_len (rowsTo (hasS s) 256)
    have h3 := rowsTo_len (fun b => !hasS s b) 256
    have h4 := rowsTo_len (hasS s) 256
    split
    · simp only [List.length_append, List.length_cons, List.length_nil]; omega
    · simp only [List.length_append, List.length_cons, List.length_nil]; omega
theorem leafW_len {k : Int} {x : List B} {s : Se} {n : Nat} {mn mx : Int} (h : Node k x s n mn mx) : (leafW setS k x s).length ≤ 2500 := by
  have h1 := textW_len x
  have h2 := setS_len s
  have h3 : x.length ≤ 256 := by cases h <;> first | assumption | (simp; done) | omega
  unfold leafW
  split
  · omega
  · split
    · exact h2
    · split
      · omega
      · simp
theorem sep_len (k : Int) : (sepK k).length ≤ 3 := by
  unfold sepK
  split
  · simp
  · split
    · simp
    · split <;> simp
theorem parts_len {sep : List B} {asked : Nat} (hsep : sep.length ≤ 3) : ∀ (l : List Re), (∀ p ∈ l, (reW setS p).length + 10 ≤ 3000 * nodes p) → (tailW setS sep asked l).length ≤ 3000 * nodesL l ∧ (partsW setS sep asked l).length ≤ 3000 * nodesL l
  | [], _ => by rw [tailW, partsW]; simp
  | p :: l, h => by
    obtain ⟨h1, _⟩ := parts_len (asked := asked) hsep l fun q hq => h q (List.mem_cons_of_mem _ hq)
    have h2 := h p List.mem_cons_self
    have h3 : (askW setS p asked).length ≤ (reW setS p).length + 2 := by
      unfold askW
      split
      · simp
      · omega
    rw [tailW, partsW]
    have e : (if lev p < asked then 40 :: (reW setS p ++ [41]) else reW setS p) = askW setS p asked := rfl
    rw [e]
    unfold nodesL
    simp only [List.length_append]
    omega
theorem reW_len : ∀ (h : Nat) (r : Re), OkRe h r → (reW setS r).length + 10 ≤ 3000 * nodes r
  | 0, r, hr => by simp [OkRe] at hr
  | h + 1, .mk k x s ps mn mx, hr => by
    have hr' : Node k x s ps.length mn mx ∧ ∀ p ∈ ps, OkRe h p := by simpa [OkRe] using hr
    have ih := fun p hp => reW_len h p (hr'.2 p hp)
    have h1 := leafW_len hr'.1
    have h2 := (parts_len (sep := []) (asked := 3) (by simp) ps ih).2
    have h3 := (parts_len (sep := []) (asked := 5) (by simp) ps ih).2
    have h4 := (parts_len (asked := needK k) (sep_len k) ps ih).2
    have h5 := oftenW_len mn mx
    rw [reW]
    unfold nodes
    split
    · rw [List.length_cons]; omega
    · split
      · rw [List.length_append]; omega
      · split
        · omega
        · omega
mutual
def mnodes : Mp → Nat
  | .mk _ _r _ ps _ _ => 1 + mnodesL ps
def mnodesL : List Mp → Nat
  | [] => 0
  | r :: l => mnodes r + mnodesL l
end
theorem mparts_len {sep : List B} {asked : Nat} (hsep : sep.length ≤ 3) : ∀ (l : List Mp), (∀ p ∈ l, (mpW setS p).length + 10 ≤ 6000 * mnodes p) → (mtailW setS sep asked l).length ≤ 6000 * mnodesL l ∧ (mpartsW setS sep asked l).length ≤ 6000 * mnodesL l
  | [], _ => by rw [mtailW, mpartsW]; simp
  | p :: l, h => by
    obtain ⟨h1, _⟩ := mparts_len (asked := asked) hsep l fun q hq => h q (List.mem_cons_of_mem _ hq)
    have h2 := h p List.mem_cons_self
    have h3 : (maskW setS p asked).length ≤ (mpW setS p).length + 2 := by
      unfold maskW
      split
      · simp
      · omega
    rw [mtailW, mpartsW]
    have e : (if mlev p < asked then 40 :: (mpW setS p ++ [41]) else mpW setS p) = maskW setS p asked := rfl
    rw [e]
    unfold mnodesL
    simp only [List.length_append]
    omega
theorem leafr_len {r : Re} (h : LeafR r) : (leafOf setS r).length ≤ 2500 := by
  obtain ⟨k, x, s, hn, _⟩ := h
  exact leafW_len hn
theorem mpW_len : ∀ (h : Nat) (r : Mp), OkMp h r → (mpW setS r).length + 10 ≤ 6000 * mnodes r
  | 0, r, hr => by simp [OkMp] at hr
  | h + 1, .mk k r o ps mn mx, hr => by
    have hr' : MNode k r o ps.length mn mx ∧ ∀ p ∈ ps, OkMp h p := by simpa [OkMp] using hr
    have ih := fun p hp => mpW_len h p (hr'.2 p hp)
    have h2 := (mparts_len (sep := [32]) (asked := 2) (by simp) ps ih).2
    have h3 := (mparts_len (sep := [32, 124, 32]) (asked := 1) (by simp) ps ih).2
    have h4 := (mparts_len (sep := []) (asked := 3) (by simp) ps ih).2
    have h5 := oftenW_len mn mx
    have h6 := textW_len o
    obtain ⟨hn, _⟩ := hr'
    generalize ps.length = n at hn
    rw [mpW]
    unfold mnodes
    cases hn with
    | same r h => have := leafr_len h; simp; omega
    | out r o h ho => have := leafr_len h; simp; omega
    | cat n h => simp; omega
    | alt n h => simp; omega
    | rep a b h => simp; omega
end Go.Proofs.YtfljcfdfgojdoaaGreatDoor.Sh

namespace Go.Proofs.YtfljcfdfgojdoaaGreatDoor
open Go.Lib

theorem okr_of {s : ByteArray} {r : Re} (h : parseRe s = .ok r) : OkRe 133 r := by
  unfold parseRe at h
  rcases h1 : allT s with ⟨p, x⟩ | l
  · rw [h1] at h; cases h
  · rw [h1] at h
    simp only at h
    have hl := lexes_okt (allT_lexes h1)
    have hb := bases_of (s := s) (l := l) rfl
    have hT : ∀ i, TokOk (tokAt (toksOf s l) i) := by
      intro i
      by_cases hi : i < (l.map Tok.base).length
      · have h2 := hb.at' i _ (List.getElem?_eq_getElem hi)
        refine (hl _ (List.getElem_mem hi)).base ?_
        rw [h2, ← h2]; rfl
      · have hk : (tokAt (toksOf s l) i).kind = 0 := by
          by_cases he : i = (l.map Tok.base).length
          · subst he; exact hb.fin
          · unfold tokAt
            have : (toksOf s l)[i]? = none := List.getElem?_eq_none (by rw [hb.len]; omega)
            simp only [List.getD, this]
            rfl
        exact ⟨fun h2 => absurd (hk.symm.trans h2) (by decide), fun h2 => absurd (hk.symm.trans h2) (by decide)⟩
    rcases h2 : altM notNone (toksOf s l) 33 0 0 with ⟨p, x⟩ | ⟨r', a⟩
    · rw [h2] at h; cases h
    · rw [h2] at h
      unfold closeM at h
      simp only at h
      split at h
      · cases h
      · cases h
        exact alt_okr hT notNone 33 0 0 _ _ (by omega) h2
/-- the text in brackets, the end of a line within -/
abbrev inB (s : ByteArray) : List B := 40 :: (s.data.toList ++ [10, 41])
theorem inB_app (s : ByteArray) (z : List B) : inB s ++ z = 40 :: (s.data.toList ++ 10 :: 41 :: z) := by simp [inB]
section
variable {s t x : ByteArray} {r q : Re}
theorem brk_one (hs : parseRe s = .ok r) (hx : x.data.toList = [32, 35, 10] ++ inB s ++ [32]) (hz : x.size ≤ 65536) : parseRe x = .ok r ∨ ∃ p, parseRe x = .error (p, 8) := by
  obtain ⟨bs, h⟩ := said_of hs
  refine parse_of_alt (ms := sb 40 :: (bs ++ [sb 41])) ?_ hz fun T hT => alt_brack h hT
  rw [hx, List.append_assoc, inB_app]
  exact (h.lex.inn .blank).remark
theorem brk_cat (hs : parseRe s = .ok r) (ht : parseRe t = .ok q) (hx : x.data.toList = inB s ++ inB t) (hz : x.size ≤ 65536) : parseRe x = .ok (.mk 4 [] Se.none [r, q] 0 0) ∨ ∃ p, parseRe x = .error (p, 8) := by
  obtain ⟨bs, h⟩ := said_of hs
  obtain ⟨cs, k⟩ := said_of ht
  refine parse_of_alt (ms := sb 40 :: (bs ++ sb 41 :: sb 40 :: (cs ++ [sb 41]))) ?_ hz fun T hT => alt_cat h k hT
  rw [hx, inB_app]
  exact h.lex.inn (k.lex.inn .nil)
theorem brk_bar (hs : parseRe s = .ok r) (ht : parseRe t = .ok q) (hx : x.data.toList = inB s ++ [124] ++ inB t) (hz : x.size ≤ 65536) : parseRe x = .ok (.mk 5 [] Se.none [r, q] 0 0) ∨ ∃ p, parseRe x = .error (p, 8) := by
  obtain ⟨bs, h⟩ := said_of hs
  obtain ⟨cs, k⟩ := said_of ht
  refine parse_of_alt (ms := sb 40 :: (bs ++ sb 41 :: sb 124 :: sb 40 :: (cs ++ [sb 41]))) ?_ hz fun T hT => alt_bar h k hT
  rw [hx, List.append_assoc, inB_app]
  exact h.lex.inn (k.lex.inn .nil).bar
theorem brk_amp (hs : parseRe s = .ok r) (ht : parseRe t = .ok q) (hx : x.data.toList = inB s ++ [38] ++ inB t) (hz : x.size ≤ 65536) : parseRe x = .ok (.mk 6 [] Se.none [r, q] 0 0) ∨ ∃ p, parseRe x = .error (p, 8) := by
  obtain ⟨bs, h⟩ := said_of hs
  obtain ⟨cs, k⟩ := said_of ht
  refine parse_of_alt (ms := sb 40 :: (bs ++ sb 41 :: sb 38 :: sb 40 :: (cs ++ [sb 41]))) ?_ hz fun T hT => alt_amp h k hT
  rw [hx, List.append_assoc, inB_app]
  exact h.lex.inn (k.lex.inn .nil).amp
theorem brk_star (hs : parseRe s = .ok r) (hx : x.data.toList = [33] ++ inB s ++ [42]) (hz : x.size ≤ 65536) : parseRe x = .ok (.mk 7 [] Se.none [.mk 8 [] Se.none [r] 0 (-1)] 0 0) ∨ ∃ p, parseRe x = .error (p, 8) := by
  obtain ⟨bs, h⟩ := said_of hs
  refine parse_of_alt (ms := sb 33 :: sb 40 :: (bs ++ [sb 41, sb 42])) ?_ hz fun T hT => alt_star h hT
  rw [hx, List.append_assoc, inB_app]
  exact (h.lex.inn (Lexes.nil.star)).nots
end
end Go.Proofs.YtfljcfdfgojdoaaGreatDoor
