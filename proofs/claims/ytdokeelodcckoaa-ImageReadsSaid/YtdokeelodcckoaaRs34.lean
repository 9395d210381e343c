/-
  The contracts of the reference reader: a row of a seq (rrow_any), and what a seq under construction is.
-/
import Derived.Test.YtdokeelodcckoaaRs2
import Derived.Test.YtdokeelodcckoaaImgQ
namespace Go.Proofs.Ytdokeelodcckoaa.Im
open Go.RowKit Go.Lib

theorem rtag_s : (73 : TypeId) ≠ 9 := by decide
theorem arcsR_step (m : Nat) (last : Int) (x : List Int × List (List B)) {r : Rd} (hb : r.bad = false) : arcsR (m + 1) last x r = arcsR m ((one1 r).1 : Int) (x.1.set (one1 r).1 ((numR ⟨(one1 r).2.b, (one1 r).2.bad || decide (((one1 r).1 : Int) ≤ last)⟩).1 : Int), x.2.set (one1 r).1 (txtR (numR ⟨(one1 r).2.b, (one1 r).2.bad || decide (((one1 r).1 : Int) ≤ last)⟩).2).1) (txtR (numR ⟨(one1 r).2.b, (one1 r).2.bad || decide (((one1 r).1 : Int) ≤ last)⟩).2).2 := by
  simp only [arcsR, hb]; simp
theorem arcsR_stop (m : Nat) (last : Int) (x : List Int × List (List B)) {r : Rd} (hb : r.bad = true) : arcsR m last x r = (x, r) := by
  cases m with
  | zero => rfl
  | succ m => simp [arcsR, hb]
def RRowPost (S : Src) (R : Nat) (w : World) (x : (List Int × List (List B)) × Rd) (e : Ending) (w' : World) : Prop :=
  ∃ u v, e = .returned (.tuple #[u, v]) ∧ w'.ownsRow w.heap.size 3 1 u 256 (x.1.1.map iV) ∧ w'.ownsRow w.heap.size 9 1 v 256 (x.1.2.map sV) ∧ RfAt S R w' x.2 ∧ Kp R w w'

set_option maxRecDepth 100000 in
set_option maxHeartbeats 4000000 in
theorem rrow_any {S : Src} {R : Nat} {w : World} {r : Rd} (h : RfAt S R w r) (hg : S.g ≠ R ∧ S.g < w.heap.size) :
    Calls Try.prog 72 #[.pointer (some ⟨R, 0, none⟩)] w (RRowPost S R w (rowR r)) := by
  have hlt := h.lt
  have HR := hid h
  have HGn := hid hg.1
  have hgb := hg.2
  clear h hg
  obtain ⟨i0, hi, hz0, hz1, hz2⟩ := info_parts infoI
  have HI := hid hi
  have HZ := hid (And.intro hz0 (And.intro hz1 hz2))
  obtain ⟨p0, hp, hp0, hp1, hp2⟩ := info_parts infoS
  have HP := hid hp
  have HZP := hid (And.intro hp0 (And.intro hp1 hp2))
  clear hi hz0 hz1 hz2 hp hp0 hp1 hp2
  go_enter Try.func72, Try.ntmps72
  go_upto_region 2 with (at_make; refine wpList_make_full _ rfl _ _ 42 rfl w.heap.size 3 i0 (.int .i64 0) 1 Try.underlying42 HI.out HZ.out.1 HZ.out.2.1 .i64 .i64 _ _ 256 rfl rfl rfl rfl (by rw [HZ.out.2.2]; decide) (by unfold maxLen; omega) (Nat.le_refl _) ?_; intro w1 hown1 hgrow1)
  go_upto_region 3 with (at_make; refine wpList_make_full _ rfl _ _ 48 rfl w1.heap.size 9 p0 (.string ⟨#[]⟩) 1 Try.underlying48 HP.out HZP.out.1 HZP.out.2.1 .i64 .i64 _ _ 256 rfl rfl rfl rfl (by rw [HZP.out.2.2]; decide) (by unfold maxLen; omega) (Nat.le_refl _) ?_; intro w2 hown2 hgrow2)
  have hb1 : Below w.heap.size w w1 := (Below.refl _ w).grown hgrow1 (Nat.le_refl _) (fun q hq => by cases hq)
  have hb2 : Below w.heap.size w w2 := hb1.grown hgrow2 hb1.size (fun q hq => by cases hq)
  have HO1 := hid (show w2.ownsRow w.heap.size 3 1 (.slice (some ⟨w.heap.size, 0, none⟩) 256 256) 256 (List.replicate 256 (iV 0)) by
    have h := own_grown hown1 hgrow2 (fun g cur h => by cases h)
    rw [made_rep (.int .i64 0) 256 rfl] at h
    exact h)
  have HO2 := hid (show w2.ownsRow w.heap.size 9 1 (.slice (some ⟨w1.heap.size, 0, none⟩) 256 256) 256 ((List.replicate 256 []).map sV) by
    have h := own_mono hown2 hb1.size
    rw [made_rep (.string ⟨#[]⟩) 256 rfl] at h
    rw [List.map_replicate]
    exact h)
  have HB2 := hid hb2
  have hs1 := hb1.size
  clear hown1 hown2 hgrow1 hgrow2 hb1 hb2
  generalize w1.heap.size = D2 at *
  clear w1
  go_wp2_with fail
  obtain ⟨wo, rfl⟩ : ∃ wo : World, wo = w := ⟨_, rfl⟩
  go_loopw [6] (fun v wr => ∃ (k : Nat) (xs : List Value), k ≤ 256 ∧ v = .int .i64 k ∧ wr.ownsRow wo.heap.size 3 1 (.slice (some ⟨wo.heap.size, 0, none⟩) 256 256) 256 xs ∧ xs.take k = List.replicate k (iV (-1)) ∧ wr.ownsRow wo.heap.size 9 1 (.slice (some ⟨D2, 0, none⟩) 256 256) 256 ((List.replicate 256 []).map sV) ∧ Below wo.heap.size wo wr) (fun v _ => 256 - (intOf v).toNat)
  case atStart => exact ⟨0, _, by omega, rfl, HO1.out, rfl, HO2.out, HB2.out⟩
  case round =>
    clear HO1 HO2 HB2
    obtain ⟨k, xs, hk, rfl, hoi, htk, hos, hbb⟩ := hrel
    have HOI := hid hoi
    have HOS := hid hos
    have HBB := hid hbb
    have HTK := hid htk
    have hxl := hoi.1
    clear hoi hos hbb htk
    by_cases hltk : k < 256
    · obtain ⟨x8, q8⟩ := own_cell HOI.out hltk
      have f8 := own_free (i := k) HOI.out
      have hk0 : (0 : Int) ≤ (k : Int) := Int.natCast_nonneg k
      have hk1 : (k : Int) < 256 := by omega
      go_wp2
      go_roundw
      case rel =>
        refine ⟨k + 1, xs.set k (iV (-1)), by omega, by go_num, own_store _ HOI.out, ?_, own_other HOS.out HOI.out (by decide), HBB.out.setCell (Nat.le_refl _) _⟩
        rw [take_set_snoc HTK.out (by omega)]
        exact (List.replicate_succ' ..).symm
      case measure => simp [intOf]; omega
    · obtain rfl : k = 256 := by omega
      have hxs : xs = List.replicate 256 (iV (-1)) := by
        have h := HTK.out
        rw [List.take_of_length_le (by omega)] at h
        exact h
      have HX := hid (show wr.ownsRow wo.heap.size 3 1 (.slice (some ⟨wo.heap.size, 0, none⟩) 256 256) 256 (blank.1.map iV) by
        have h := HOI.out
        rw [hxs] at h
        unfold blank
        rw [List.map_replicate]
        exact h)
      clear hxs HOI HTK hxl
      have hsr := HBB.out.size
      go_wp2_with fail
      refine (rnum_any (HR.out.below HBB.out hlt hgb) HGn.out).mono ?_
      rintro e w3 ⟨rfl, hrd3, hkp3⟩
      have HR3 := hid hrd3
      have hrtw : RfAt S R wr r := HR.out.below HBB.out hlt hgb
      have HX3 := hid (own_kp HX.out hkp3 (rtag hrtw rtag_i))
      have HY3 := hid (own_kp HOS.out hkp3 (rtag hrtw rtag_s))
      have HK3 := hid (((Kp.refl R wo).below HBB.out).trans hkp3)
      have HRW := hid (show rowR r = arcsR (numR r).1 (-1) (blank.1, blank.2) (numR r).2 from rfl)
      have hm := numR_lt r
      clear hrd3 hkp3 hrtw HX HOS HBB HR
      generalize (numR r).1 = m at *
      generalize (numR r).2 = r3 at *
      go_wp2_with fail
      go_loopw [7, 9] (fun lv v wx => ∃ (j : Nat) (last : Int) (ns : List Int) (os : List (List B)) (rn : Rd), j ≤ m ∧ (-1 ≤ last ∧ last < 256) ∧ lv = .int .i64 last ∧ v = .int .i64 j ∧ wx.ownsRow wo.heap.size 3 1 (.slice (some ⟨wo.heap.size, 0, none⟩) 256 256) 256 (ns.map iV) ∧ wx.ownsRow wo.heap.size 9 1 (.slice (some ⟨D2, 0, none⟩) 256 256) 256 (os.map sV) ∧ RfAt S R wx rn ∧ Kp R wo wx ∧ Hid (rowR r = arcsR (m - j) last (ns, os) rn)) (fun _ v _ => m - (intOf v).toNat)
      case atStart => exact ⟨0, -1, blank.1, blank.2, r3, Nat.zero_le _, ⟨by omega, by omega⟩, rfl, rfl, HX3.out, HY3.out, HR3.out, HK3.out, HRW⟩
      case round =>
        clear HX3 HY3 HR3 HK3 HRW
        obtain ⟨j, last, ns, os, rn, hj, ⟨hla, hlb⟩, rfl, rfl, hox, hoy, hrx, hkx, har⟩ := hrel
        obtain ⟨z2, zf⟩ := hrx.cells
        have HOX := hid hox
        have HOY := hid hoy
        have HRX := hid hrx
        have HKX := hid hkx
        have hge5 := own_ge hoy
        clear hox hoy hrx hkx
        obtain ⟨hlts, hbad⟩ | hstop : ((j : Int) < (m : Int) ∧ rn.bad = false) ∨ (j = m ∨ (j : Int) < (m : Int) ∧ rn.bad = true) := by
          rcases Nat.lt_or_ge j m with h | h
          · cases hb : rn.bad
            · exact .inl ⟨Int.ofNat_lt.2 h, rfl⟩
            · exact .inr (.inr ⟨Int.ofNat_lt.2 h, rfl⟩)
          · exact .inr (.inl (by omega))
        · have HAR := hid (har.out.trans ((show arcsR (m - j) last (ns, os) rn = arcsR ((m - (j + 1)) + 1) last (ns, os) rn by rw [show m - j = (m - (j + 1)) + 1 by omega]).trans (arcsR_step _ _ _ hbad)))
          rw [hbad] at z2
          clear hbad har zf
          go_upto_region 13 with (go_at_call 71; refine (rone_any HRX.out HGn.out).mono ?_; rintro e wa ⟨rfl, hrda, hkpa⟩)
          have hbt := one1_lt rn
          have HRA := hid hrda
          have HOA := hid (own_kp HOX.out hkpa (rtag HRX.out rtag_i))
          have HOB := hid (own_kp HOY.out hkpa (rtag HRX.out rtag_s))
          have HKA := hid (HKX.out.trans hkpa)
          clear hrda hkpa HOX HOY HRX HKX z2
          generalize (one1 rn).1 = bt at *
          generalize (one1 rn).2 = ra at *
          obtain ⟨z2, zf⟩ := HRA.out.cells
          go_upto_if 38 with fail
          go_cut [] (fun wx => RfAt S R wx ⟨ra.b, ra.bad || decide ((bt : Int) ≤ last)⟩ ∧ Kp R wa wx)
          case first =>
            by_cases hle : (bt : Int) ≤ last
            · have HE := hid (show (⟨ra.b, ra.bad || decide ((bt : Int) ≤ last)⟩ : Rd) = ⟨ra.b, true⟩ by rw [decide_eq_true hle, Bool.or_true])
              go_wp2
              go_meet
              rw [HE.out]
              exact ⟨HRA.out.setBad HGn.out, (Kp.refl R wa).set 2 _⟩
            · have HE := hid (show (⟨ra.b, ra.bad || decide ((bt : Int) ≤ last)⟩ : Rd) = ra by rw [decide_eq_false hle, Bool.or_false])
              go_wp2
              go_meet
              rw [HE.out]
              exact ⟨HRA.out, Kp.refl R wa⟩
          case rest =>
          obtain ⟨hrdc, hkpc⟩ := hcut
          have HRC := hid hrdc
          have HOA1 := hid (own_kp HOA.out hkpc (rtag HRA.out rtag_i))
          have HOB1 := hid (own_kp HOB.out hkpc (rtag HRA.out rtag_s))
          have HKC := hid (HKA.out.trans hkpc)
          clear hrdc hkpc HOA HOB HRA HKA z2 zf
          generalize (⟨ra.b, ra.bad || decide ((bt : Int) ≤ last)⟩ : Rd) = rc at *
          have hb1 : (0 : Int) ≤ (bt : Int) := Int.natCast_nonneg bt
          have hb2 : (bt : Int) < 256 := by omega
          go_upto_region 17 with (go_at_call 53; refine (rnum_any HRC.out HGn.out).mono ?_; rintro e wb ⟨rfl, hrdb, hkpb⟩; have HRB := hid hrdb; have HOA2 := hid (own_kp HOA1.out hkpb (rtag HRC.out rtag_i)); have HOB2 := hid (own_kp HOB1.out hkpb (rtag HRC.out rtag_s)); have HKB := hid (HKC.out.trans hkpb); obtain ⟨x8, q8⟩ := own_cell HOA2.out hbt; have f8 := own_free (i := bt) HOA2.out; clear hrdb hkpb)
          have hbc : Below wo.heap.size wb (wb.setCell ⟨wo.heap.size, bt, none⟩ (.int .i64 ((numR rc).1 : Int))) := (Below.refl _ wb).setCell (by simp) _
          have HRD := hid (HRB.out.below hbc hlt hgb)
          have HOA3 := hid (own_store (i := bt) (.int .i64 ((numR rc).1 : Int)) HOA2.out)
          have HOB3 := hid (own_other (i := bt) (u := .int .i64 ((numR rc).1 : Int)) HOB2.out HOA2.out (by decide))
          have HKD := hid (HKB.out.below hbc)
          clear hbc HRB HOA2 HOB2 HKB q8 f8 HRC HOA1 HOB1 HKC
          generalize wb.setCell ⟨wo.heap.size, bt, none⟩ (.int .i64 ((numR rc).1 : Int)) = wd at *
          go_wp2_with (go_at_call 57; refine (rtxt_any HRD.out HGn.out).mono ?_; rintro e we ⟨rfl, hrde, hkpe⟩; have HRE := hid hrde; have HOA4 := hid (own_kp HOA3.out hkpe (rtag HRD.out rtag_i)); have HOB4 := hid (own_kp HOB3.out hkpe (rtag HRD.out rtag_s)); have HKE := hid (HKD.out.trans hkpe); obtain ⟨x9, q9⟩ := own_cell HOB4.out hbt; have f9 := own_free (i := bt) HOB4.out; clear hrde hkpe)
          go_roundw
          case rel =>
            have hbe : Below wo.heap.size we (we.setCell ⟨D2, bt, none⟩ (.string ⟨(txtR (numR rc).2).1.toArray⟩)) := (Below.refl _ we).setCell hge5 _
            refine ⟨j + 1, bt, _, _, _, by omega, ⟨by omega, by omega⟩, rfl, by go_num, ?_, ?_, HRE.out.below hbe hlt hgb, HKE.out.below hbe, HAR⟩
            · rw [List.map_set]; exact own_other HOA4.out HOB4.out (by decide)
            · rw [List.map_set]; exact own_store _ HOB4.out
          case measure => simp [intOf]; omega
        · have HFIN := hid (show rowR r = ((ns, os), rn) by
            have h := har.out
            rcases hstop with rfl | ⟨_, hbad⟩
            · rw [Nat.sub_self] at h; exact h
            · rw [arcsR_stop _ _ _ hbad] at h; exact h)
          clear har
          rcases hstop with rfl | ⟨hlts, hbad⟩
          all_goals try rw [hbad] at z2
          all_goals try clear hbad
          all_goals
            go_wp2
            refine bodyPost_ret (results_tmp2 rfl _ _ _) rfl ?_
            rw [HFIN.out]
            exact ⟨_, _, rfl, HOX.out, HOY.out, HRX.out, HKX.out⟩
end Go.Proofs.Ytdokeelodcckoaa.Im

namespace Go.Proofs.Ytdokeelodcckoaa.Im
open Go.RowKit Go.Lib

theorem kept_tag {W W' : World} {o : Obj} {D i base base' e eb n nb : Nat} {v vb u : Value} {xs ys : List Value} {cs : Array Value} {T : TypeId} (h : W.ownsRow base e 1 v n xs) (HO : W.ownsRow base' eb 1 vb nb ys) (HG : (W.alloc o).grownBy W' vb.ownBlock) (hD : W'.heap[D]? = some (.cells cs T (0, 0))) (he : e ≠ eb) (hT : T ≠ e) : (W'.setCell ⟨D, i, none⟩ u).ownsRow base e 1 v n xs :=
  own_set (own_grown (h.alloc _) HG (fun g cur hg hh => by
    obtain ⟨cur', h'⟩ := own_tag HO hg
    have := (alloc_old (o := o) (lt_of_heap h')).trans h'
    rw [hh] at this
    cases this
    exact he rfl)) hD hT
theorem kept_blk {W W' : World} {o : Obj} {D i base base' e eb n nb : Nat} {v vb u : Value} {xs ys : List Value} (h : W.ownsRow base e 1 v n xs) (HO : W.ownsRow base' eb 1 vb nb ys) (HG : (W.alloc o).grownBy W' vb.ownBlock) (hD : D < base) (hne : ∀ g, v.ownBlock = some g → vb.ownBlock ≠ some g) : (W'.setCell ⟨D, i, none⟩ u).ownsRow base e 1 v n xs :=
  own_blk_set (own_blk h fun g hg => (HG.block g (by have := (own_lt h hg).2; simp; omega) (fun e => hne g hg e.symm)).trans (alloc_old (own_lt h hg).2)) hD
/-- the seq that is being read, in block D -/
structure SqSt (S : Src) (R D : Nat) (w W : World) (fr : List B) (vn vo ve vt : Value) (kn ko ke kt : Nat) (nv ov : List Value) (es : List Bool) (ts : List (List B)) (nl ol : List Value) (nx : List (List Int)) (os : List (List (List B))) (rk : Rd) : Prop where
  hd : W.heap[D]? = some (.cells #[sV fr, vn, vo, ve, vt] 50 (0, 0))
  on : W.ownsRow (D + 1) 42 1 vn kn nv
  oo : W.ownsRow (D + 1) 48 1 vo ko ov
  oe : W.ownsRow (D + 1) 4 1 ve ke (es.map lV)
  ot : W.ownsRow (D + 1) 9 1 vt kt (ts.map sV)
  ln : Lst 3 iV W (D + 1) nl nx
  lo : Lst 9 sV W (D + 1) ol os
  rd : RfAt S R W rk
  kp : Kp R w W
  hz : W.heap[w.heap.size]? = some (.cells #[.string ⟨#[]⟩, .slice none 0 0, .slice none 0 0, .slice none 0 0, .slice none 0 0] 50 (0, 0))
  ap : ∀ x ∈ ol, ∀ g, x.ownBlock = some g → vt.ownBlock ≠ some g
  lt : R < D ∧ S.g < D ∧ w.heap.size < D
section
variable {S : Src} {R D : Nat} {w W W' : World} {fr : List B} {vn vo ve vt : Value} {kn ko ke kt : Nat} {nv ov : List Value} {es : List Bool} {ts : List (List B)} {nl ol : List Value} {nx : List (List Int)} {os : List (List (List B))} {rk rk' : Rd}
theorem SqSt.call (h : SqSt S R D w W fr vn vo ve vt kn ko ke kt nv ov es ts nl ol nx os rk) (hr : RfAt S R W' rk') (hk : Kp R W W') : SqSt S R D w W' fr vn vo ve vt kn ko ke kt nv ov es ts nl ol nx os rk' :=
  ⟨(hk.block _ (lt_of_heap h.hd) (by have := h.lt; omega)).trans h.hd, own_kp h.on hk (rtag h.rd rtag_r), own_kp h.oo hk (rtag h.rd (by decide)), own_kp h.oe hk (rtag h.rd rtag_b), own_kp h.ot hk (rtag h.rd rtag_s),
    h.ln.map fun _ _ k => own_kp k hk (rtag h.rd rtag_i), h.lo.map fun _ _ k => own_kp k hk (rtag h.rd rtag_s), hr, h.kp.trans hk, (hk.block _ (lt_of_heap h.hz) (by have := h.lt; have := lt_of_heap h.hd; intro e; have := h.rd; obtain ⟨_, hR, _⟩ := this; rw [← e, h.hz] at hR; cases hR)).trans h.hz, h.ap, h.lt⟩
theorem SqSt.rows {u v : Value} {xs : List Int} {ys : List (List B)} {b : Nat} (h : SqSt S R D w W fr vn vo ve vt kn ko ke kt nv ov es ts nl ol nx os rk) (hu : W.ownsRow b 3 1 u 256 (xs.map iV)) (hv : W.ownsRow b 9 1 v 256 (ys.map sV)) (hb : D < b) (hvt : ∀ g, vt.ownBlock = some g → g < b) : SqSt S R D w W fr vn vo ve vt kn ko ke kt nv ov es ts (nl ++ [u]) (ol ++ [v]) (nx ++ [xs]) (os ++ [ys]) rk :=
  ⟨h.hd, h.on, h.oo, h.oe, h.ot, h.ln.snoc (by have : xs.length = 256 := by simpa using hu.1
                                               rw [this]; exact own_mono hu hb), h.lo.snoc (by have : ys.length = 256 := by simpa using hv.1
                                                                                               rw [this]; exact own_mono hv hb), h.rd, h.kp, h.hz, fun x hx g hg hg' => by
    rcases List.mem_append.1 hx with hx | hx
    · exact h.ap x hx g hg hg'
    · rw [List.mem_singleton.1 hx] at hg
      have := (own_lt hv hg).1
      have := hvt g hg'
      omega, h.lt⟩
theorem SqSt.low (h : SqSt S R D w W fr vn vo ve vt kn ko ke kt nv ov es ts nl ol nx os rk) {o : Obj} {e n i : Nat} {v u : Value} {xs : List Value} (hO : W.ownsRow (D + 1) e 1 v n xs) (HG : (W.alloc o).grownBy W' v.ownBlock) : Below D W (W'.setCell ⟨D, i, none⟩ u) ∧ W'.heap[D]? = W.heap[D]? := by
  have hl := lt_of_heap h.hd
  refine ⟨(((Below.refl D W).alloc (by omega) _).grown HG (by simp; omega) (fun q hq => by have := (hO.lt q hq).1; omega)).setCell (by simp) _, ?_⟩
  exact far_row hO HG hl (Nat.lt_succ_self _)
theorem SqSt.addE {o : Obj} {u : Value} {b : Bool} (h : SqSt S R D w W fr vn vo ve vt kn ko ke kt nv ov es ts nl ol nx os rk) (HG : (W.alloc o).grownBy W' ve.ownBlock) (hu : W'.ownsRow (D + 1) 4 1 u (ke + 1) (es.map lV ++ [.bool b])) : SqSt S R D w (W'.setCell ⟨D, 3, none⟩ u) fr vn vo u vt kn ko (ke + 1) kt nv ov (es ++ [b]) ts nl ol nx os rk := by
  obtain ⟨hb, hd⟩ := h.low (i := 3) (u := u) h.oe HG
  have hd' := hd.trans h.hd
  have kt := fun {e n v xs} (k : W.ownsRow (D + 1) e 1 v n xs) (h1 : e ≠ 4) (h2 : 50 ≠ e) => kept_tag (i := 3) (u := u) k h.oe HG hd' h1 h2
  refine ⟨?_, kt h.on (by decide) (by decide), kt h.oo (by decide) (by decide), ?_, kt h.ot (by decide) (by decide), h.ln.map fun _ _ k => kt k (by decide) (by decide), h.lo.map fun _ _ k => kt k (by decide) (by decide), h.rd.below hb h.lt.1 h.lt.2.1, h.kp.below (hb.mono (by have := h.lt; omega)), (hb.block _ h.lt.2.2).trans h.hz, h.ap, h.lt⟩
  · rw [heap_setCell_same _ _ _ _ _ _ hd']; rfl
  · rw [List.map_append]; exact own_set hu hd' (by decide)
theorem SqSt.addN {o : Obj} {u x : Value} (h : SqSt S R D w W fr vn vo ve vt kn ko ke kt nv ov es ts nl ol nx os rk) (HG : (W.alloc o).grownBy W' vn.ownBlock) (hu : W'.ownsRow (D + 1) 42 1 u (kn + 1) (nv ++ [x])) : SqSt S R D w (W'.setCell ⟨D, 1, none⟩ u) fr u vo ve vt (kn + 1) ko ke kt (nv ++ [x]) ov es ts nl ol nx os rk := by
  obtain ⟨hb, hd⟩ := h.low (i := 1) (u := u) h.on HG
  have hd' := hd.trans h.hd
  have kt := fun {e n v xs} (k : W.ownsRow (D + 1) e 1 v n xs) (h1 : e ≠ 42) (h2 : 50 ≠ e) => kept_tag (i := 1) (u := u) k h.on HG hd' h1 h2
  refine ⟨?_, own_set hu hd' (by decide), kt h.oo (by decide) (by decide), kt h.oe (by decide) (by decide), kt h.ot (by decide) (by decide), h.ln.map fun _ _ k => kt k (by decide) (by decide), h.lo.map fun _ _ k => kt k (by decide) (by decide), h.rd.below hb h.lt.1 h.lt.2.1, h.kp.below (hb.mono (by have := h.lt; omega)), (hb.block _ h.lt.2.2).trans h.hz, h.ap, h.lt⟩
  rw [heap_setCell_same _ _ _ _ _ _ hd']; rfl
theorem SqSt.addO {o : Obj} {u x : Value} (h : SqSt S R D w W fr vn vo ve vt kn ko ke kt nv ov es ts nl ol nx os rk) (HG : (W.alloc o).grownBy W' vo.ownBlock) (hu : W'.ownsRow (D + 1) 48 1 u (ko + 1) (ov ++ [x])) : SqSt S R D w (W'.setCell ⟨D, 2, none⟩ u) fr vn u ve vt kn (ko + 1) ke kt nv (ov ++ [x]) es ts nl ol nx os rk := by
  obtain ⟨hb, hd⟩ := h.low (i := 2) (u := u) h.oo HG
  have hd' := hd.trans h.hd
  have kt := fun {e n v xs} (k : W.ownsRow (D + 1) e 1 v n xs) (h1 : e ≠ 48) (h2 : 50 ≠ e) => kept_tag (i := 2) (u := u) k h.oo HG hd' h1 h2
  refine ⟨?_, kt h.on (by decide) (by decide), own_set hu hd' (by decide), kt h.oe (by decide) (by decide), kt h.ot (by decide) (by decide), h.ln.map fun _ _ k => kt k (by decide) (by decide), h.lo.map fun _ _ k => kt k (by decide) (by decide), h.rd.below hb h.lt.1 h.lt.2.1, h.kp.below (hb.mono (by have := h.lt; omega)), (hb.block _ h.lt.2.2).trans h.hz, h.ap, h.lt⟩
  rw [heap_setCell_same _ _ _ _ _ _ hd']; rfl
theorem SqSt.addT {o : Obj} {u : Value} {t : List B} (h : SqSt S R D w W fr vn vo ve vt kn ko ke kt nv ov es ts nl ol nx os rk) (HG : (W.alloc o).grownBy W' vt.ownBlock) (hu : W'.ownsRow (D + 1) 9 1 u (kt + 1) (ts.map sV ++ [sV t])) (hnew : ∀ g, u.ownBlock = some g → vt.ownBlock = some g ∨ W.heap.size ≤ g) : SqSt S R D w (W'.setCell ⟨D, 4, none⟩ u) fr vn vo ve u kn ko ke (kt + 1) nv ov es (ts ++ [t]) nl ol nx os rk := by
  obtain ⟨hb, hd⟩ := h.low (i := 4) (u := u) h.ot HG
  have hd' := hd.trans h.hd
  have kt := fun {e n v xs} (k : W.ownsRow (D + 1) e 1 v n xs) (h1 : e ≠ 9) (h2 : 50 ≠ e) => kept_tag (i := 4) (u := u) k h.ot HG hd' h1 h2
  refine ⟨?_, kt h.on (by decide) (by decide), kt h.oo (by decide) (by decide), kt h.oe (by decide) (by decide), ?_, h.ln.map fun _ _ k => kt k (by decide) (by decide), h.lo.mapm fun x _ hx k => kept_blk k h.ot HG (Nat.lt_succ_self D) (fun g hg => h.ap x hx g hg), h.rd.below hb h.lt.1 h.lt.2.1, h.kp.below (hb.mono (by have := h.lt; omega)), (hb.block _ h.lt.2.2).trans h.hz, fun x hx g hg hg' => ?_, h.lt⟩
  · rw [heap_setCell_same _ _ _ _ _ _ hd']; rfl
  · rw [List.map_append]; exact own_set hu hd' (by decide)
  · rcases hnew g hg' with h1 | h1
    · exact h.ap x hx g hg h1
    · obtain ⟨l, hl⟩ := h.lo.own_of_mem hx
      have := (own_lt hl hg).2
      omega
end
end Go.Proofs.Ytdokeelodcckoaa.Im
