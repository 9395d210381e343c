/-
  rightMap as it is; plain: what it tells, and what may stand in a map.
  show.Re, show.Map: the contracts.
  Plain: what is written of a map is parsed as it was; how long what is written may be, and how deep.
  awake of chapter 8 returns true.
  SameRe, SameMap return true at two trees in memory that are read as one, wherever they lie.
-/
import Derived.Test.YtfljcfdfgojdoaaGreatDoorFa23
import Derived.Test.YtfljcfdfgojdoaaGreatDoorFa19
namespace Go.Proofs.YtfljcfdfgojdoaaGreatDoor.Sh
open Go.RowKit Go.Lib Go.Proofs.YtfljcfdfgojdoaaGreatDoor

inductive TxMp : Mp → Prop where
  | mk (k : Int) (r : Re) (o : List B) (ps : List Mp) (mn mx : Int) (h : TxRe r) (ho : o.length ≤ 140737488351232) (hp : ∀ p, p ∈ ps → TxMp p) : TxMp (.mk k r o ps mn mx)
theorem TxMp.re {k : Int} {r : Re} {o : List B} {ps : List Mp} {mn mx : Int} (h : TxMp (.mk k r o ps mn mx)) : TxRe r := by cases h; assumption
theorem TxMp.out {k : Int} {r : Re} {o : List B} {ps : List Mp} {mn mx : Int} (h : TxMp (.mk k r o ps mn mx)) : o.length ≤ 140737488351232 := by cases h; assumption
theorem TxMp.part {k : Int} {r : Re} {o : List B} {ps : List Mp} {mn mx : Int} (h : TxMp (.mk k r o ps mn mx)) {p : Mp} (hp : p ∈ ps) : TxMp p := by cases h with | mk _ _ _ _ _ _ h1 h2 h3 => exact h3 p hp
theorem ReG.rn {F : Nat → Prop} {w : World} {r : Re} {y : Rw} (h : ReG F w r y.cs) : y.n ≤ maxLen := by
  obtain ⟨k, x, s, ps, mn, mx⟩ := r
  obtain ⟨ad, cap, e, hl, _⟩ := h.open
  obtain ⟨yk, yx, ⟨a1, a2, a3, a4⟩, yad, yn, ycap, ymn, ymx⟩ := y
  simp only [Rw.cs, reC, Array.mk.injEq, List.cons.injEq, Value.int.injEq, Value.string.injEq, Value.slice.injEq, ByteArray.mk.injEq, true_and, and_true] at e
  obtain ⟨_, _, _, _, _, _, ⟨_, rfl, _⟩, _, _⟩ := e
  exact hl
set_option maxRecDepth 100000 in
set_option maxHeartbeats 1000000 in
theorem rightMap_any : ∀ (m : Nat) (p : Mp), m ≤ 1000 → TxMp p → MRightAt m p
  | 0, p, _, _ => by
    intro F y w hFw h
    have HB := hid ((Below.refl w.heap.size w).alloc (Nat.le_refl _) (.cells y.cs 36))
    have HE := hid (show mrightB 0 p = false by cases p; rfl)
    clear h hFw
    go_enter Tryz.func55, Tryz.ntmps55
    go_wp2
    go_ret
    exact ⟨bool_eq HE.out.symm, HB.out⟩
  | m + 1, .mk k r o ps mn mx, hm, ht => by
    intro F y w hFw h
    obtain ⟨h1, h2, h3, h4, h5, h6, h7, h8⟩ := h.open
    have hs := rightMap_step (y := y) (r := r) (w := w) (m := m) (ps := ps) (F := F) (by omega) (by rw [h3]; exact h7) h6.rn (by rw [h2]; exact ht.out)
      (fun W hW => rightRe_any (fun g hg => Nat.lt_of_lt_of_le (hFw g hg) hW.size) (h6.below hFw hW) ht.re) hFw h3 h8 (fun p hp => rightMap_any m p (by omega) (ht.part hp))
    rw [nodeM_same h] at hs
    exact hs
theorem emptyB_zero {r : Re} (h : emptyB (rwOf r).k (rwOf r).x (rwOf r).s (rwOf r).n (rwOf r).mn (rwOf r).mx = true) : r = Re.zero := by
  obtain ⟨k, x, s, ps, mn, mx⟩ := r
  unfold emptyB rwOf at h
  simp only [Bool.and_eq_true, decide_eq_true_eq] at h
  obtain ⟨rfl, rfl, h3, h4, rfl, rfl⟩ := h
  obtain rfl := noneB_eq h3
  obtain rfl := List.length_eq_zero_iff.1 h4
  rfl
theorem leafr_of {r : Re} (h1 : leafB (rwOf r).k = true) (h2 : okB r = true) : LeafR r := by
  have hr := okB_of h2
  obtain ⟨k, x, s, ps, mn, mx⟩ := r
  rw [show (200 : Nat) = 199 + 1 from rfl] at hr
  unfold OkRe at hr
  obtain ⟨hn, _⟩ := hr
  have hk : levK k = 5 := of_decide_eq_true h1
  generalize hl : ps.length = n at hn
  cases hn with
  | text x h =>
    obtain rfl := List.length_eq_zero_iff.1 hl
    exact .mk 1 x Se.none (.text x h) (.inl rfl)
  | set s =>
    obtain rfl := List.length_eq_zero_iff.1 hl
    exact .mk 2 [] s (.set s) (.inr (.inl rfl))
  | name x h hx =>
    obtain rfl := List.length_eq_zero_iff.1 hl
    exact .mk 3 x Se.none (.name x h hx) (.inr (.inr rfl))
  | cat n h => cases hk
  | alt n h => cases hk
  | and n h => cases hk
  | not => cases hk
  | rep a b h => cases hk
theorem okmB_mk (k : Int) (R : Rw) (o : List B) (ad : Option Addr) (n cap : Nat) (mn mx : Int) (r : Re) : okmB ⟨k, R, o, ad, n, cap, mn, mx⟩ r =
    (if k = 1 then leafB R.k && okB r else if k = 2 then (leafB R.k && okB r) && decide (o.length ≤ 256) else if k = 3 ∨ k = 4 then decide (2 ≤ n)
     else if k = 5 then decide (n = 1) && ((decide (mx = -1) && (decide (mn = 0) || decide (mn = 1))) || (decide (mn = 0) && decide (mx = 1))) else false) := rfl
theorem restM_mk (k : Int) (R : Rw) (o : List B) (ad : Option Addr) (n cap : Nat) (mn mx : Int) : restM ⟨k, R, o, ad, n, cap, mn, mx⟩ =
    (if k = 1 then ⟨k, Rw.zero, o, ad, n, cap, mn, mx⟩ else if k = 2 then ⟨k, Rw.zero, [], ad, n, cap, mn, mx⟩ else if k = 3 ∨ k = 4 then ⟨k, R, o, none, 0, 0, mn, mx⟩
     else if k = 5 then ⟨k, R, o, none, 0, 0, 0, 0⟩ else ⟨k, R, o, ad, n, cap, mn, mx⟩) := rfl
theorem mnode_of {k : Int} {r : Re} {o : List B} {ps : List Mp} {mn mx : Int} (h : nodeM (mwOf (.mk k r o ps mn mx)) r = true) : MNode k r o ps.length mn mx := by
  change nodeM ⟨k, rwOf r, o, none, ps.length, 0, mn, mx⟩ r = true at h
  unfold nodeM at h
  rw [Bool.and_eq_true] at h
  obtain ⟨h1, h2⟩ := h
  rw [okmB_mk] at h1
  rw [restM_mk] at h2
  split at h1
  · rename_i hk
    rw [if_pos hk] at h2
    rw [Bool.and_eq_true] at h1
    unfold emptyMB at h2
    simp only [Bool.and_eq_true, decide_eq_true_eq] at h2
    obtain ⟨_, _, rfl, h3, rfl, rfl⟩ := h2
    rw [h3]
    subst hk
    exact .same r (leafr_of h1.1 h1.2)
  · rename_i hk1
    rw [if_neg hk1] at h2
    split at h1
    · rename_i hk
      rw [if_pos hk] at h2
      simp only [Bool.and_eq_true, decide_eq_true_eq] at h1
      unfold emptyMB at h2
      simp only [Bool.and_eq_true, decide_eq_true_eq] at h2
      obtain ⟨_, _, _, h3, rfl, rfl⟩ := h2
      rw [h3]
      subst hk
      exact .out r o (leafr_of h1.1.1 h1.1.2) h1.2
    · rename_i hk2
      rw [if_neg hk2] at h2
      split at h1
      · rename_i hk
        rw [if_pos hk] at h2
        simp only [decide_eq_true_eq] at h1
        unfold emptyMB at h2
        simp only [Bool.and_eq_true, decide_eq_true_eq] at h2
        obtain ⟨_, h3, rfl, _, rfl, rfl⟩ := h2
        obtain rfl := emptyB_zero h3
        rcases hk with rfl | rfl
        · exact .cat _ h1
        · exact .alt _ h1
      · rename_i hk3
        rw [if_neg hk3] at h2
        split at h1
        · rename_i hk
          rw [if_pos hk] at h2
          simp only [Bool.and_eq_true, Bool.or_eq_true, decide_eq_true_eq] at h1
          unfold emptyMB at h2
          simp only [Bool.and_eq_true, decide_eq_true_eq] at h2
          obtain ⟨_, h3, rfl, _, _, _⟩ := h2
          obtain rfl := emptyB_zero h3
          subst hk
          rw [h1.1]
          refine .rep mn mx ?_
          omega
        · cases h1
theorem okMp_of : ∀ {n : Nat} {r : Mp}, mrightB n r = true → OkMp n r
  | 0, r, h => by cases r; cases h
  | n + 1, .mk k r o ps mn mx, h => by
    rw [mrightB, Bool.and_eq_true] at h
    unfold OkMp
    exact ⟨mnode_of h.1, fun p hp => okMp_of (List.all_eq_true.1 h.2 p hp)⟩
end Go.Proofs.YtfljcfdfgojdoaaGreatDoor.Sh

namespace Go.Proofs.YtfljcfdfgojdoaaGreatDoor.Sh
open Go.RowKit Go.Lib Go.Proofs.YtfljcfdfgojdoaaGreatDoor

/-- what show.Re tells -/
def showRe (r : Re) : List B × Int := if checkM r = 0 then endM (reW setS r) (reD r) else ([], checkM r)
def TextPost (w : World) (x : List B × Int) (e : Ending) (w' : World) : Prop := e = .returned (.tuple #[.string ⟨x.1.toArray⟩, .int .i64 x.2]) ∧ Below w.heap.size w w'
theorem sw_new {w : World} {P : Nat} (h : w.heap[P]? = some (.cells #[.int .i64 0, .int .i64 0, .slice none 0 0] 75 (0, 0))) : SW P w 0 0 [] :=
  ⟨_, h, World.ownsRow_nil _ _ _ _⟩
theorem checkM_ne {r : Re} (h : checkM r ≠ 0) : (checkM r != 0) = true := by simpa using h
set_option maxRecDepth 100000 in
set_option maxHeartbeats 1000000 in
theorem showRe_any {F : Nat → Prop} {r : Re} {cs : Array Value} {w : World} (hFw : ∀ g, F g → g < w.heap.size) (hG : ReG F w r cs) (ht : TxRe r) (hs : SeRe r) (hD : checkM r = 0 → reD r ≤ 1000000) (hL : checkM r = 0 → (reW setS r).length ≤ 1099511627776) :
    Calls Tryz.prog 17 #[.agg cs] w (TextPost w (showRe r)) := by
  obtain ⟨k, x, s, ad, n, cap, mn, mx, rfl⟩ := hG.cells
  have hb0 : Below w.heap.size w (w.alloc (.cells (reC k x s (.slice ad n cap) mn mx) 33)) := (Below.refl _ w).alloc (Nat.le_refl _) _
  have hsz : (w.alloc (.cells (reC k x s (.slice ad n cap) mn mx) 33)).heap.size = w.heap.size + 1 := by simp
  have hblk : (w.alloc (.cells (reC k x s (.slice ad n cap) mn mx) 33)).heap[w.heap.size]? = some (.cells (reC k x s (.slice ad n cap) mn mx) 33 (0, 0)) := heap_alloc_new _ _
  have hc := check_any (w := w.alloc (.cells (reC k x s (.slice ad n cap) mn mx) 33)) (fun g hg => by have := hFw g hg; omega) (hG.below hFw hb0) ht
  obtain ⟨c0, c1, c2, c3, c4, c5, c6, c7, c8⟩ := nine_of hblk
  have HB := hid hb0
  have HBK := hid hblk
  have HG := hid hG
  have HFW := hid hFw
  have HSZ := hid hsz
  clear hG hFw hb0 hblk
  by_cases hck : checkM r = 0
  · have HE := hid (show showRe r = endM (reW setS r) (reD r) by unfold showRe; rw [if_pos hck])
    have hok := checkM_zero hck
    have HD := hid (hD hck)
    have HL := hid (hL hck)
    rw [hck] at hc
    have HOK := hid hok
    clear hck hok hD hL
    go_enter Tryz.func17, Tryz.ntmps17
    go_upto_region 1 with fail
    generalize w.alloc (.cells (reC k x s (.slice ad n cap) mn mx) 33) = W0 at *
    go_upto_region 5 with (go_at_call 20; refine hc.mono ?_; clear hc; rintro e W1 ⟨rfl, hb1⟩; have HB1 := hid (HB.out.trans (hb1.mono (by omega))); have hbx1 := (hb1.block w.heap.size (by omega)).trans HBK.out; have HB01 := hid hb1; clear hb1 c0 c1 c2 c3 c4 c5 c6 c7 c8)
    have hP : (W1.alloc (.cells #[.int .i64 0, .int .i64 0, .slice none 0 0] 75)).heap[W1.heap.size]? = some (.cells #[.int .i64 0, .int .i64 0, .slice none 0 0] 75 (0, 0)) := heap_alloc_new _ _
    have hbx2 : (W1.alloc (.cells #[.int .i64 0, .int .i64 0, .slice none 0 0] 75)).heap[w.heap.size]? = _ := (alloc_old (lt_of_heap hbx1)).trans hbx1
    have HB2 := hid (HB1.out.alloc HB1.out.size (.cells #[.int .i64 0, .int .i64 0, .slice none 0 0] 75))
    have hsw := sw_new hP
    have hs1 := HB1.out.size
    obtain ⟨c0, c1, c2, c3, c4, c5, c6, c7, c8⟩ := nine_of hbx2
    generalize hW2 : W1.alloc (.cells #[.int .i64 0, .int .i64 0, .slice none 0 0] 75) = W2 at *
    have hre := re_any (P := W1.heap.size) HOK.out hs ((HG.out.below HFW.out HB2.out).frame (F' := fun g => g < W1.heap.size) (fun g hg => Nat.lt_of_lt_of_le (HFW.out g hg) hs1) (fun _ _ _ => rfl)) hsw (Nat.le_refl 0) (by have := HD.out; omega) (by omega) (by have := HL.out; simpa using this)
    have hPlt := lt_of_heap hP
    clear hbx1 hbx2 hP hsw hW2
    go_upto_region 6 with (go_at_call 50; refine hre.mono ?_; clear hre; rintro e W3 ⟨rfl, hw3, hu3⟩; have HW3 := hid hw3; have HU3 := hid hu3; clear hw3 hu3)
    have htx := text_any HW3.out
    rw [List.nil_append, Nat.zero_add, Nat.max_eq_right (Nat.zero_le _)] at htx
    go_wp2_with (go_at_call 41; refine htx.mono ?_; clear htx; rintro e W4 ⟨rfl, rfl⟩)
    go_ret2
    rw [HE.out]
    exact ⟨rfl, HB2.out.trans ((HU3.out.low hPlt).mono hs1)⟩
  · have HE := hid (show showRe r = ([], checkM r) by unfold showRe; rw [if_neg hck])
    have hne := checkM_ne hck
    clear hck hD hL
    generalize checkM r = c at *
    go_enter Tryz.func17, Tryz.ntmps17
    go_wp2_with (go_at_call 20; refine hc.mono ?_; clear hc; rintro e W1 ⟨rfl, hb1⟩)
    go_ret2
    rw [HE.out]
    exact ⟨rfl, HB.out.trans (hb1.mono (by have := HSZ.out; omega))⟩
end Go.Proofs.YtfljcfdfgojdoaaGreatDoor.Sh

namespace Go.Proofs.YtfljcfdfgojdoaaGreatDoor.Sh
open Go.RowKit Go.Lib Go.Proofs.YtfljcfdfgojdoaaGreatDoor

theorem reD_le : ∀ (h : Nat) (r : Re), OkRe h r → reD r ≤ 2 * h
  | 0, r, hr => by simp [OkRe] at hr
  | h + 1, .mk k x s ps mn mx, hr => by
    have hr' : Node k x s ps.length mn mx ∧ ∀ p ∈ ps, OkRe h p := by simpa [OkRe] using hr
    have key : ∀ (n : Nat) (l : List Re), (∀ p ∈ l, reD p ≤ 2 * h) → partsD n l ≤ 2 * h + 1 := by
      intro n l
      induction l with
      | nil => intro _; rw [partsD]; omega
      | cons q l ih =>
        intro hl
        rw [partsD]
        have h1 := hl q List.mem_cons_self
        have h2 := ih fun p hp => hl p (List.mem_cons_of_mem _ hp)
        have h3 : (if lev q < n then 1 else 0) ≤ 1 := by split <;> omega
        omega
    have h1 := key (needK k) ps fun p hp => reD_le h p (hr'.2 p hp)
    rw [reD]
    have h2 : (if k = 7 then 1 else 0) ≤ 1 := by split <;> omega
    omega
theorem mpD_le : ∀ (h : Nat) (r : Mp), OkMp h r → mpD r ≤ h
  | 0, r, hr => by simp [OkMp] at hr
  | h + 1, .mk k r o ps mn mx, hr => by
    have hr' : MNode k r o ps.length mn mx ∧ ∀ p ∈ ps, OkMp h p := by simpa [OkMp] using hr
    have key : ∀ (n : Nat) (l : List Mp), (∀ p ∈ l, mpD p ≤ h) → mpartsD n l ≤ h + 1 := by
      intro n l
      induction l with
      | nil => intro _; rw [mpartsD]; omega
      | cons q l ih =>
        intro hl
        rw [mpartsD]
        have h1 := hl q List.mem_cons_self
        have h2 := ih fun p hp => hl p (List.mem_cons_of_mem _ hp)
        have h3 : (if mlev q < n then 1 else 0) ≤ 1 := by split <;> omega
        omega
    rw [mpD]
    exact key (mneedK k) ps fun p hp => mpD_le h p (hr'.2 p hp)
-- how long
mutual
def nodes : Re → Nat
  | .mk _ _ _ ps _ _ => 1 + nodesL ps
def nodesL : List Re → Nat
  | [] => 0
  | r :: l => nodes r + nodesL l
end
theorem setS_len (s : Se) : (setS s).length ≤ 2500 := by
  unfold setS
  split
  · simp
  · unfold setP
    have h1 := rows_len (rowsTo (fun b => !hasS s b) 256)
    have h2 := rows_len (rowsTo (hasS s) 256)
    have h3 := rowsTo_len (fun b => !hasS s b) 256
    have h4 := rowsTo_len (hasS s) 256
    split
    · simp only [List.length_append, List.length_cons, List.length_nil]; omega
    · simp only [List.length_append, List.length_cons, List.length_nil]; omega
theorem leafW_len {k : Int} {x : List B} {s : Se} {n : Nat} {mn mx : Int} (h : Node k x s n mn mx) : (leafW setS k x s).length ≤ 2500 := by
  have h1 := textW_len x
  have h2 := setS_len s
  have h3 : x.length ≤ 256 := by cases h <;> first | assumption | (simp; done) | omega
  unfold leafW
  split
  · omega
  · split
    · exact h2
    · split
      · omega
      · simp
theorem sep_len (k : Int) : (sepK k).length ≤ 3 := by
  unfold sepK
  split
  · simp
  · split
    · simp
    · split <;> simp
theorem parts_len {sep : List B} {asked : Nat} (hsep : sep.length ≤ 3) : ∀ (l : List Re), (∀ p ∈ l, (reW setS p).length + 10 ≤ 3000 * nodes p) → (tailW setS sep asked l).length ≤ 3000 * nodesL l ∧ (partsW setS sep asked l).length ≤ 3000 * nodesL l
  | [], _ => by rw [tailW, partsW]; simp
  | p :: l, h => by
    obtain ⟨h1, _⟩ := parts_len (asked := asked) hsep l fun q hq => h q (List.mem_cons_of_mem _ hq)
    have h2 := h p List.mem_cons_self
    have h3 : (askW setS p asked).length ≤ (reW setS p).length + 2 := by
      unfold askW
      split
      · simp
      · omega
    rw [tailW, partsW]
    have e : (if lev p < asked then 40 :: (reW setS p ++ [41]) else reW setS p) = askW setS p asked := rfl
    rw [e]
    unfold nodesL
    simp only [List.length_append]
    omega
theorem reW_len : ∀ (h : Nat) (r : Re), OkRe h r → (reW setS r).length + 10 ≤ 3000 * nodes r
  | 0, r, hr => by simp [OkRe] at hr
  | h + 1, .mk k x s ps mn mx, hr => by
    have hr' : Node k x s ps.length mn mx ∧ ∀ p ∈ ps, OkRe h p := by simpa [OkRe] using hr
    have ih := fun p hp => reW_len h p (hr'.2 p hp)
    have h1 := leafW_len hr'.1
    have h2 := (parts_len (sep := []) (asked := 3) (by simp) ps ih).2
    have h3 := (parts_len (sep := []) (asked := 5) (by simp) ps ih).2
    have h4 := (parts_len (asked := needK k) (sep_len k) ps ih).2
    have h5 := oftenW_len mn mx
    rw [reW]
    unfold nodes
    split
    · rw [List.length_cons]; omega
    · split
      · rw [List.length_append]; omega
      · split
        · omega
        · omega
mutual
def mnodes : Mp → Nat
  | .mk _ _r _ ps _ _ => 1 + mnodesL ps
def mnodesL : List Mp → Nat
  | [] => 0
  | r :: l => mnodes r + mnodesL l
end
theorem mparts_len {sep : List B} {asked : Nat} (hsep : sep.length ≤ 3) : ∀ (l : List Mp), (∀ p ∈ l, (mpW setS p).length + 10 ≤ 6000 * mnodes p) → (mtailW setS sep asked l).length ≤ 6000 * mnodesL l ∧ (mpartsW setS sep asked l).length ≤ 6000 * mnodesL l
  | [], _ => by rw [mtailW, mpartsW]; simp
  | p :: l, h => by
    obtain ⟨h1, _⟩ := mparts_len (asked := asked) hsep l fun q hq => h q (List.mem_cons_of_mem _ hq)
    have h2 := h p List.mem_cons_self
    have h3 : (maskW setS p asked).length ≤ (mpW setS p).length + 2 := by
      unfold maskW
      split
      · simp
      · omega
    rw [mtailW, mpartsW]
    have e : (if mlev p < asked then 40 :: (mpW setS p ++ [41]) else mpW setS p) = maskW setS p asked := rfl
    rw [e]
    unfold mnodesL
    simp only [List.length_append]
    omega
theorem leafr_len {r : Re} (h : LeafR r) : (leafOf setS r).length ≤ 2500 := by
  obtain ⟨k, x, s, hn, _⟩ := h
  exact leafW_len hn
theorem mpW_len : ∀ (h : Nat) (r : Mp), OkMp h r → (mpW setS r).length + 10 ≤ 6000 * mnodes r
  | 0, r, hr => by simp [OkMp] at hr
  | h + 1, .mk k r o ps mn mx, hr => by
    have hr' : MNode k r o ps.length mn mx ∧ ∀ p ∈ ps, OkMp h p := by simpa [OkMp] using hr
    have ih := fun p hp => mpW_len h p (hr'.2 p hp)
    have h2 := (mparts_len (sep := [32]) (asked := 2) (by simp) ps ih).2
    have h3 := (mparts_len (sep := [32, 124, 32]) (asked := 1) (by simp) ps ih).2
    have h4 := (mparts_len (sep := []) (asked := 3) (by simp) ps ih).2
    have h5 := oftenW_len mn mx
    have h6 := textW_len o
    obtain ⟨hn, _⟩ := hr'
    generalize ps.length = n at hn
    rw [mpW]
    unfold mnodes
    cases hn with
    | same r h => have := leafr_len h; simp; omega
    | out r o h ho => have := leafr_len h; simp; omega
    | cat n h => simp; omega
    | alt n h => simp; omega
    | rep a b h => simp; omega
end Go.Proofs.YtfljcfdfgojdoaaGreatDoor.Sh

namespace Go.Proofs.YtfljcfdfgojdoaaGreatDoor.Sh
open Go.RowKit Go.Lib Go.Proofs.YtfljcfdfgojdoaaGreatDoor

theorem mkNode {F : Nat → Prop} {w : World} {g : Nat} {k : Int} {x : List B} {s : Se} {ps : List Re} {mn mx : Int} {cur : Array Value} (hg : w.heap[g]? = some (.cells cur 33 (0, 0))) (hF : F g) (hp : PartsIn F w ps cur.toList) (hc : cur.size = ps.length * 9) (hl : ps.length ≤ maxLen) :
    ReIn F w (.mk k x s ps mn mx) (reC k x s (.slice (some ⟨g, 0, none⟩) ps.length ps.length) mn mx) := by
  unfold ReIn
  refine ⟨_, _, cur.toList, rfl, ⟨hc, .inr ⟨g, ps.length, cur, rfl, Nat.zero_le _, hg, Nat.le_refl _, hl, hc, ?_⟩⟩, fun q hq => ?_, hp⟩
  · rw [← hc]; exact List.take_of_length_le (Nat.le_refl _)
  · simp [Value.ownBlock] at hq; subst hq; exact hF
abbrev A0 : Array Value := reC 2 [] bSet (.slice none 0 0) 0 0
abbrev A1 (N : Nat) : Array Value := reC 8 [] Se.none (.slice (some ⟨N, 0, none⟩) 1 1) 0 (-1)
abbrev A2 (N : Nat) : Array Value := #[.int .i64 1, .string ⟨#[97]⟩, .int .u64 0, .int .u64 0, .int .u64 0, .int .u64 0, .slice none 0 0, .int .i64 0, .int .i64 0, .int .i64 8, .string ⟨#[]⟩, .int .u64 0, .int .u64 0, .int .u64 0, .int .u64 0, .slice (some ⟨N, 0, none⟩) 1 1, .int .i64 0, .int .i64 (-1)]
abbrev A3 (N : Nat) : Array Value := reC 4 [] Se.none (.slice (some ⟨N + 1 + 1, 0, none⟩) 2 2) 0 0
abbrev A4 : Array Value := reC 3 [120] Se.none (.slice none 0 0) 0 0
abbrev A5 (N : Nat) : Array Value := reC 7 [] Se.none (.slice (some ⟨N + 1 + 1 + 1 + 1, 0, none⟩) 1 1) 0 0
abbrev A6 (N : Nat) : Array Value := #[.int .i64 4, .string ⟨#[]⟩, .int .u64 0, .int .u64 0, .int .u64 0, .int .u64 0, .slice (some ⟨N + 1 + 1, 0, none⟩) 2 2, .int .i64 0, .int .i64 0, .int .i64 7, .string ⟨#[]⟩, .int .u64 0, .int .u64 0, .int .u64 0, .int .u64 0, .slice (some ⟨N + 1 + 1 + 1 + 1, 0, none⟩) 1 1, .int .i64 0, .int .i64 0]
abbrev awW6 (w : World) : World := (((((w.alloc (.cells A0 33)).alloc (.cells (A1 w.heap.size) 33)).alloc (.cells (A2 w.heap.size) 33)).alloc (.cells (A3 w.heap.size) 33)).alloc (.cells A4 33)).alloc (.cells (A5 w.heap.size) 33)
abbrev awW (w : World) : World := (awW6 w).alloc (.cells (A6 w.heap.size) 33)
theorem heap_push (w : World) (o : Obj) : (w.alloc o).heap = w.heap.push o := rfl
theorem aw6_below (w : World) : Below w.heap.size w (awW6 w) := by
  unfold awW6
  repeat (first | exact Below.refl _ _ | refine Below.alloc ?_ (by simp; try omega) _)
theorem aw_below (w : World) : Below w.heap.size w (awW w) := (aw6_below w).alloc (by simp; omega) _
theorem aw_size (w : World) : (awW w).heap.size = w.heap.size + 7 := by simp
theorem aw_tree (w : World) : ReIn (fun g => g < w.heap.size + 7) (awW w) awRe (reC 5 [] Se.none (.slice (some ⟨w.heap.size + 1 + 1 + 1 + 1 + 1 + 1, 0, none⟩) 2 2) 0 0) := by
  have b0 : (awW w).heap[w.heap.size]? = some (.cells A0 33 (0, 0)) := by
    simp only [heap_push, Array.getElem?_push, Array.size_push]
    simp
    repeat rw [if_neg (by omega)]
  have b2 : (awW w).heap[w.heap.size + 1 + 1]? = some (.cells (A2 w.heap.size) 33 (0, 0)) := by simp only [heap_push, Array.getElem?_push, Array.size_push]; simp
  have b4 : (awW w).heap[w.heap.size + 1 + 1 + 1 + 1]? = some (.cells A4 33 (0, 0)) := by simp only [heap_push, Array.getElem?_push, Array.size_push]; simp
  have b6 : (awW w).heap[w.heap.size + 1 + 1 + 1 + 1 + 1 + 1]? = some (.cells (A6 w.heap.size) 33 (0, 0)) := by simp only [heap_push, Array.getElem?_push, Array.size_push]; simp
  obtain ⟨F, hF⟩ : ∃ F : Nat → Prop, F = fun g => g < w.heap.size + 7 := ⟨_, rfl⟩
  have f0 : F w.heap.size := by rw [hF]; show w.heap.size < _; omega
  have f2 : F (w.heap.size + 1 + 1) := by rw [hF]; show w.heap.size + 1 + 1 < _; omega
  have f4 : F (w.heap.size + 1 + 1 + 1 + 1) := by rw [hF]; show w.heap.size + 1 + 1 + 1 + 1 < _; omega
  have f6 : F (w.heap.size + 1 + 1 + 1 + 1 + 1 + 1) := by rw [hF]; show w.heap.size + 1 + 1 + 1 + 1 + 1 + 1 < _; omega
  rw [← hF]
  generalize awW w = W at *
  have t0 : ReIn F W (.mk 2 [] bSet [] 0 0) A0 := ReIn.leaf _ _ _ _ _ _ _
  have t1 : ReIn F W awStar (A1 w.heap.size) := mkNode (ps := [.mk 2 [] bSet [] 0 0]) b0 f0 (by unfold PartsIn PartsIn; exact ⟨A0, [], rfl, t0, rfl⟩) rfl (by simp [maxLen])
  have ta : ReIn F W (.mk 1 [97] Se.none [] 0 0) (reC 1 [97] Se.none (.slice none 0 0) 0 0) := ReIn.leaf _ _ _ _ _ _ _
  have t3 : ReIn F W awOne (A3 w.heap.size) := mkNode (ps := [.mk 1 [97] Se.none [] 0 0, awStar]) b2 f2 (by unfold PartsIn PartsIn PartsIn; exact ⟨_, _, rfl, ta, _, [], rfl, t1, rfl⟩) rfl (by simp [maxLen])
  have tx : ReIn F W (.mk 3 [120] Se.none [] 0 0) A4 := ReIn.leaf _ _ _ _ _ _ _
  have t5 : ReIn F W awTwo (A5 w.heap.size) := mkNode (ps := [.mk 3 [120] Se.none [] 0 0]) b4 f4 (by unfold PartsIn PartsIn; exact ⟨A4, [], rfl, tx, rfl⟩) rfl (by simp [maxLen])
  exact mkNode (ps := [awOne, awTwo]) b6 f6 (by unfold PartsIn PartsIn PartsIn; exact ⟨_, _, rfl, t3, _, [], rfl, t5, rfl⟩) rfl (by simp [maxLen])
theorem aw_se : SeRe awRe := by
  have n : SeOk Se.none := SeOk.none
  have b : SeOk bSet := ⟨⟨by decide, by decide⟩, ⟨by decide, by decide⟩, ⟨by decide, by decide⟩, ⟨by decide, by decide⟩⟩
  refine .mk _ _ _ _ _ _ n fun p hp => ?_
  simp at hp
  rcases hp with rfl | rfl
  · refine .mk _ _ _ _ _ _ n fun p hp => ?_
    simp at hp
    rcases hp with rfl | rfl
    · exact .mk _ _ _ _ _ _ n fun p hp => by simp at hp
    · refine .mk _ _ _ _ _ _ n fun p hp => ?_
      simp at hp
      subst hp
      exact .mk _ _ _ _ _ _ b fun p hp => by simp at hp
  · refine .mk _ _ _ _ _ _ n fun p hp => ?_
    simp at hp
    subst hp
    exact .mk _ _ _ _ _ _ n fun p hp => by simp at hp
theorem aw_tx : TxRe awRe := by
  refine .mk _ _ _ _ _ _ (by simp) fun p hp => ?_
  simp at hp
  rcases hp with rfl | rfl
  · refine .mk _ _ _ _ _ _ (by simp) fun p hp => ?_
    simp at hp
    rcases hp with rfl | rfl
    · exact .mk _ _ _ _ _ _ (by simp) fun p hp => by simp at hp
    · refine .mk _ _ _ _ _ _ (by simp) fun p hp => ?_
      simp at hp
      subst hp
      exact .mk _ _ _ _ _ _ (by simp) fun p hp => by simp at hp
  · refine .mk _ _ _ _ _ _ (by simp) fun p hp => ?_
    simp at hp
    subst hp
    exact .mk _ _ _ _ _ _ (by simp) fun p hp => by simp at hp
theorem aw_text : endM (reW setS awRe) (reD awRe) = ([34, 97, 34, 32, 91, 98, 93, 42, 32, 124, 32, 33, 120], 0) := by kernel_rfl
theorem aw_len : (reW setS awRe).length = 13 := by kernel_rfl
theorem aw_dep : reD awRe = 1 := by kernel_rfl
theorem aw_show : showRe awRe = ([34, 97, 34, 32, 91, 98, 93, 42, 32, 124, 32, 33, 120], 0) := by
  unfold showRe
  rw [if_pos (okRe_check aw_ok (by decide)), aw_text]
set_option maxRecDepth 100000 in
set_option maxHeartbeats 1000000 in
theorem awake8_any (w : World) : Calls Tryz.prog 14 #[] w fun e w' => e = .returned (.bool true) ∧ Below w.heap.size w w' := by
  have e24 := eq24
  have hbox := hid (show (w.alloc (.cells #[.int .u8 98] 5)).heap[w.heap.size]? = some (.cells #[.int .u8 98] 5 (0, 0)) from heap_alloc_new _ _)
  have hsz1 := hid (show (w.alloc (.cells #[.int .u8 98] 5)).heap.size = w.heap.size + 1 by simp)
  have HB1 := hid ((Below.refl w.heap.size w).alloc (Nat.le_refl _) (.cells #[.int .u8 98] 5))
  have HST := hid (fun (W : World) => showRe_any (F := fun g => g < W.heap.size + 7) (w := awW W) (fun g hg => by rw [aw_size]; exact hg) (ReG.ofIn (aw_tree W)) aw_tx aw_se (fun _ => by rw [aw_dep]; decide) (fun _ => by rw [aw_len]; decide))
  have HSH := hid aw_show
  go_enter Tryz.func14, Tryz.ntmps14
  go_upto_region 4 with (go_at_call 47; go_loud (refine (of_b _ _ hbox.out).mono ?_; rintro e w2 ⟨rfl, hb2⟩; have HB2 := hid (HB1.out.trans (hb2.mono (by rw [hsz1.out]; omega))); clear hb2))
  go_upto_region 5 with (go_at_call 17; go_loud (refine (HST.out w2).mono ?_; rw [HSH.out]; rintro e w3 ⟨rfl, hb3⟩))
  go_wp2
  go_ret
  exact ⟨rfl, HB2.out.trans ((aw_below w2).mono HB2.out.size |>.trans (hb3.mono (by have := HB2.out.size; rw [aw_size]; omega)))⟩
end Go.Proofs.YtfljcfdfgojdoaaGreatDoor.Sh

namespace Go.Proofs.YtfljcfdfgojdoaaGreatDoor.Sh
open Go.RowKit Go.Lib Go.Proofs.YtfljcfdfgojdoaaGreatDoor

/-- the nine cells of an element of a row -/
def Elem9 (W : World) (g o : Nat) (k : Int) (x : List B) (s : Se) (v : Value) (mn mx : Int) : Prop :=
  W.cell? ⟨g, o, none⟩ = some (.int .i64 k) ∧ W.cell? ⟨g, o + 1, none⟩ = some (.string ⟨x.toArray⟩) ∧ W.cell? ⟨g, o + 2, none⟩ = some (.int .u64 s.a) ∧ W.cell? ⟨g, o + 3, none⟩ = some (.int .u64 s.b) ∧ W.cell? ⟨g, o + 4, none⟩ = some (.int .u64 s.c) ∧ W.cell? ⟨g, o + 5, none⟩ = some (.int .u64 s.d) ∧ W.cell? ⟨g, o + 6, none⟩ = some v ∧ W.cell? ⟨g, o + 7, none⟩ = some (.int .i64 mn) ∧ W.cell? ⟨g, o + 8, none⟩ = some (.int .i64 mx)
theorem elem9_of {W : World} {g o : Nat} {k : Int} {x : List B} {s : Se} {v : Value} {mn mx : Int} (h : ∀ j c, (reC k x s v mn mx)[j]? = some c → W.cell? ⟨g, o + j, none⟩ = some c) : Elem9 W g o k x s v mn mx :=
  ⟨h 0 _ rfl, h 1 _ rfl, h 2 _ rfl, h 3 _ rfl, h 4 _ rfl, h 5 _ rfl, h 6 _ rfl, h 7 _ rfl, h 8 _ rfl⟩
end Go.Proofs.YtfljcfdfgojdoaaGreatDoor.Sh
