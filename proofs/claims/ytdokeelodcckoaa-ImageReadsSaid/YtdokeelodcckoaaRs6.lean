/-
  The reference's reader: image.
-/
import Derived.Test.YtdokeelodcckoaaRs5
import Derived.Test.YtdokeelodcckoaaImgRc
namespace Go.Proofs.Ytdokeelodcckoaa.Im
open Go.RowKit Go.Lib

theorem rulesR_step (n : Nat) {r : Rd} (hb : r.bad = false) : rulesR (n + 1) r = ((ruleR r).1 :: (rulesR n (ruleR r).2).1, (rulesR n (ruleR r).2).2) := by simp only [rulesR, hb]; simp
theorem rulesR_bad (n : Nat) {r : Rd} (hb : r.bad = true) : rulesR n r = ([], r) := by
  cases n with
  | zero => rfl
  | succ n => simp [rulesR, hb]
theorem classesR_step (n : Nat) {r : Rd} (hb : r.bad = false) : classesR (n + 1) r = ((clsR r).1 :: (classesR n (clsR r).2).1, (classesR n (clsR r).2).2) := by simp only [classesR, hb]; simp
theorem classesR_bad (n : Nat) {r : Rd} (hb : r.bad = true) : classesR n r = ([], r) := by
  cases n with
  | zero => rfl
  | succ n => simp [classesR, hb]
def RImgPost (S : Src) (R : Nat) (w : World) (x : Img × Rd) (e : Ending) (w' : World) : Prop :=
  ∃ a b, e = .returned (.agg #[a, b]) ∧ ImgIn (fun g => w.heap.size ≤ g) w' a b x.1 ∧ RfAt S R w' x.2 ∧ Kp R w w'
/-- the struct that is being read, in block P; w0: the world ahead of it -/
structure RuSt (S : Src) (R P : Nat) (w0 W : World) (T : TypeId) (cs : Array Value) (rk : Rd) : Prop where
  hd : W.heap[P]? = some (.cells cs T (0, 0))
  rd : RfAt S R W rk
  kp : Kp R w0 W
  lt : R < w0.heap.size ∧ S.g < w0.heap.size ∧ w0.heap.size ≤ P
section
variable {S : Src} {R P : Nat} {w0 W W' : World} {T : TypeId} {cs : Array Value} {rk rk' : Rd}
theorem RuSt.call (h : RuSt S R P w0 W T cs rk) (hr : RfAt S R W' rk') (hk : Kp R W W') : RuSt S R P w0 W' T cs rk' :=
  ⟨(hk.block _ (lt_of_heap h.hd) (by have := h.lt; omega)).trans h.hd, hr, h.kp.trans hk, h.lt⟩
theorem RuSt.set (h : RuSt S R P w0 W T cs rk) (i : Nat) (v : Value) : RuSt S R P w0 (W.setCell ⟨P, i, none⟩ v) T (cs.setIfInBounds i v) rk := by
  have hb : Below w0.heap.size W (W.setCell ⟨P, i, none⟩ v) := (Below.refl _ W).setCell h.lt.2.2 _
  exact ⟨heap_setCell_same _ _ _ _ _ _ h.hd, h.rd.below hb h.lt.1 h.lt.2.1, h.kp.below hb, h.lt⟩
theorem RuSt.dfa {a b c : Value} {d : Dfa} (h : RuSt S R P w0 W T cs rk) (hd : DfaIn (fun g => P + 1 ≤ g) W a b c d) (hk : Kp R W W') : DfaIn (fun g => P + 1 ≤ g) W' a b c d :=
  hd.kept (by have := h.lt; omega) hk
theorem dfa_set {a b c v : Value} {d : Dfa} {i : Nat} (hd : DfaIn (fun g => P + 1 ≤ g) W a b c d) : DfaIn (fun g => P + 1 ≤ g) (W.setCell ⟨P, i, none⟩ v) a b c d :=
  hd.frame (fun _ h => h) (fun g hg _ => heap_setCell_other _ _ _ _ (by simp; omega))
end

set_option maxRecDepth 100000 in
set_option maxHeartbeats 4000000 in
theorem rimage_any {S : Src} {R : Nat} {w : World} {r : Rd} (h : RfAt S R w r) (hg : S.g ≠ R ∧ S.g < w.heap.size) :
    Calls Try.prog 32 #[.pointer (some ⟨R, 0, none⟩)] w (RImgPost S R w (imgR r)) := by
  have hlt := h.lt
  have HR := hid h
  have HGn := hid hg.1
  have hgb := hg.2
  clear h hg
  go_enter Try.func32, Try.ntmps32
  go_wp2_with fail
  refine (rnum_any ((HR.out.alloc _).alloc _) HGn.out).mono ?_
  rintro e w1 ⟨rfl, hrd1, hkp1⟩
  have HRD1 := hid hrd1
  have HKP1 := hid ((((Kp.refl R w).alloc _).alloc _).trans hkp1)
  have HZ1 := hid ((hkp1.block w.heap.size (by simp; omega) (by omega)).trans (heap_alloc2_old _ _ _))
  have HD1 := hid ((hkp1.block (w.heap.size + 1) (by simp) (by omega)).trans (heap_alloc2_new _ _ _))
  have hs1 : w.heap.size + 2 ≤ w1.heap.size := by have := hkp1.size; simp at this; omega
  clear hrd1 hkp1
  have hn16 := numR_lt r
  have HA := hid (show imgR r = (⟨(rulesR (numR r).1 (numR r).2).1, (classesR (numR (rulesR (numR r).1 (numR r).2).2).1 (numR (rulesR (numR r).1 (numR r).2).2).2).1⟩, (classesR (numR (rulesR (numR r).1 (numR r).2).2).1 (numR (rulesR (numR r).1 (numR r).2).2).2).2) from rfl)
  generalize (numR r).2 = r1 at *
  generalize (numR r).1 = n at *
  obtain ⟨i0, hi, hz0, hz1, hz2⟩ := info_parts infoRule
  have HI := hid hi
  have HZI := hid (And.intro hz0 (And.intro hz1 hz2))
  clear hi hz0 hz1 hz2
  go_upto_block 0 with fail
  go_cut [] (fun wx => ∃ va, wx.heap[w.heap.size + 1]? = some (.cells #[va, .slice none 0 0] 25 (0, 0)) ∧ Agg 52 16 RuleIn wx (w.heap.size + 2) va (rulesR n r1).1 ∧ RfAt S R wx (rulesR n r1).2 ∧ Kp R w wx ∧ wx.heap[w.heap.size]? = some (.cells #[.slice none 0 0, .slice none 0 0] 25 (0, 0)))
  case first =>
    go_wp2_with fail
    go_loopw [5] (fun v wr => ∃ (k : Nat) (l : List Rule) (va : Value) (rk : Rd), k ≤ n ∧ v = .int .i64 k ∧ l.length = k ∧ wr.heap[w.heap.size + 1]? = some (.cells #[va, .slice none 0 0] 25 (0, 0)) ∧ Agg 52 16 RuleIn wr (w.heap.size + 2) va l ∧ RfAt S R wr rk ∧ Kp R w wr ∧ wr.heap[w.heap.size]? = some (.cells #[.slice none 0 0, .slice none 0 0] 25 (0, 0)) ∧ Hid (rulesR n r1 = (l ++ (rulesR (n - k) rk).1, (rulesR (n - k) rk).2))) (fun v _ => n - (intOf v).toNat)
    case atStart => exact ⟨0, [], .slice none 0 0, r1, Nat.zero_le _, rfl, rfl, HD1.out, Agg.nil _ _, HRD1.out, HKP1.out, HZ1.out, hid (by simp)⟩
    case round =>
      obtain ⟨k, l, va, rk, hk, rfl, hlk, hd, hag, hrd, hkp, hz, hst⟩ := hrel
      obtain ⟨z2, zf⟩ := hrd.cells
      have HRr := hid hrd
      have HD := hid hd
      have HZ := hid hz
      have HAG := hid hag
      have HKP := hid hkp
      have hszr := hkp.size
      have hlD := lt_of_heap hd
      obtain ⟨q0, q1⟩ := twocells hd
      clear hd hz hag hkp hrd
      obtain ⟨hlts, hbad⟩ | hstop : ((k : Int) < (n : Int) ∧ rk.bad = false) ∨ (k = n ∨ (k : Int) < (n : Int) ∧ rk.bad = true) := by
        rcases Nat.lt_or_ge k n with h | h
        · cases hb : rk.bad
          · exact .inl ⟨Int.ofNat_lt.2 h, rfl⟩
          · exact .inr (.inr ⟨Int.ofNat_lt.2 h, rfl⟩)
        · exact .inr (.inl (by omega))
      · have HST := hid (hst.out.trans (show (l ++ (rulesR (n - k) rk).1, (rulesR (n - k) rk).2) = (l ++ [(ruleR rk).1] ++ (rulesR (n - (k + 1)) (ruleR rk).2).1, (rulesR (n - (k + 1)) (ruleR rk).2).2) by
          rw [show n - k = (n - (k + 1)) + 1 by omega, rulesR_step _ hbad, List.append_assoc]
          rfl))
        rw [hbad] at z2
        clear hbad hst zf
        have hlt0 : R < wr.heap.size ∧ S.g < wr.heap.size := ⟨by omega, by omega⟩
        go_upto_region 7 with (go_at_call 54; refine (rbit_any HRr.out HGn.out).mono ?_; rintro e w5 ⟨rfl, hrd5, hkp5⟩; have HR5 := hid hrd5; have HK5 := hid hkp5; clear hrd5 hkp5)
        have hRL := hid (show ruleR rk = if (bitR rk).1 then (⟨(autoR (bitR rk).2).1, (autoR (autoR (bitR rk).2).2).1, (autoR (autoR (autoR (bitR rk).2).2).2).1, [], true, (sqR (autoR (autoR (autoR (bitR rk).2).2).2).2).1⟩, (sqR (autoR (autoR (autoR (bitR rk).2).2).2).2).2) else (⟨(autoR (bitR rk).2).1, (autoR (autoR (bitR rk).2).2).1, (autoR (autoR (autoR (bitR rk).2).2).2).1, (txtR (autoR (autoR (autoR (bitR rk).2).2).2).2).1, false, Sq.zero⟩, (txtR (autoR (autoR (autoR (bitR rk).2).2).2).2).2) from rfl)
        have HS5 : Hid (RuSt S R w5.heap.size wr (w5.alloc (.cells #[.slice none 0 0, .slice none 0 0, .slice none 0 0, .slice none 0 0, .slice none 0 0, .slice none 0 0, .slice none 0 0, .slice none 0 0, .slice none 0 0, .string ⟨#[]⟩, .bool (bitR rk).1, .string ⟨#[]⟩, .slice none 0 0, .slice none 0 0, .slice none 0 0, .slice none 0 0] 52)) 52 #[.slice none 0 0, .slice none 0 0, .slice none 0 0, .slice none 0 0, .slice none 0 0, .slice none 0 0, .slice none 0 0, .slice none 0 0, .slice none 0 0, .string ⟨#[]⟩, .bool (bitR rk).1, .string ⟨#[]⟩, .slice none 0 0, .slice none 0 0, .slice none 0 0, .slice none 0 0] (bitR rk).2) := hid ⟨heap_alloc_new _ _, HR5.out.alloc _, HK5.out.alloc _, ⟨hlt0.1, hlt0.2, HK5.out.size⟩⟩
        generalize hwa : w5.alloc _ = wa at *
        clear hwa HRr HR5 HK5
        generalize w5.heap.size = P at *
        clear w5
        go_upto_region 8 with (go_at_call 55; refine (rauto_any HS5.out.rd ⟨HGn.out, by have := HS5.out.kp.size; omega⟩).mono ?_; rintro e w6 ⟨a, b, c, rfl, hda, hrd, hkp⟩; obtain ⟨x1, p1, y1, q1, z1, s1, rfl, rfl, rfl⟩ := hda.shape; have HDA := hid hda; have HKA := hid hkp; have HS6 := hid (HS5.out.call hrd hkp); have hlP := lt_of_heap HS5.out.hd; clear hda hrd hkp; have kf0 := free_box (i := 0) HS6.out.hd; have ky0 := cell_blk (i := 0) HS6.out.hd rfl; have kf1 := free_box (i := 1) HS6.out.hd; have ky1 := cell_blk (i := 1) HS6.out.hd rfl; have kf2 := free_box (i := 2) HS6.out.hd; have ky2 := cell_blk (i := 2) HS6.out.hd rfl)
        have HDA1 := hid (dfa_set (P := P) (i := 2) (v := .slice z1 (autoR (bitR rk).2).1.fin.length s1) (dfa_set (P := P) (i := 1) (v := .slice y1 (autoR (bitR rk).2).1.next.length q1) (dfa_set (P := P) (i := 0) (v := .slice x1 (autoR (bitR rk).2).1.cls.length p1) (HDA.out.from (show P + 1 ≤ wa.heap.size by omega)))))
        have HT6 := hid (show RuSt S R P wr (((w6.setCell ⟨P, 0, none⟩ (.slice x1 (autoR (bitR rk).2).1.cls.length p1)).setCell ⟨P, 1, none⟩ (.slice y1 (autoR (bitR rk).2).1.next.length q1)).setCell ⟨P, 2, none⟩ (.slice z1 (autoR (bitR rk).2).1.fin.length s1)) 52 #[.slice x1 (autoR (bitR rk).2).1.cls.length p1, .slice y1 (autoR (bitR rk).2).1.next.length q1, .slice z1 (autoR (bitR rk).2).1.fin.length s1, .slice none 0 0, .slice none 0 0, .slice none 0 0, .slice none 0 0, .slice none 0 0, .slice none 0 0, .string ⟨#[]⟩, .bool (bitR rk).1, .string ⟨#[]⟩, .slice none 0 0, .slice none 0 0, .slice none 0 0, .slice none 0 0] _ from ((HS6.out.set 0 _).set 1 _).set 2 _)
        generalize hwx : ((w6.setCell ⟨P, 0, none⟩ (.slice x1 (autoR (bitR rk).2).1.cls.length p1)).setCell ⟨P, 1, none⟩ (.slice y1 (autoR (bitR rk).2).1.next.length q1)).setCell ⟨P, 2, none⟩ (.slice z1 (autoR (bitR rk).2).1.fin.length s1) = v6 at *
        generalize (autoR (bitR rk).2).1 = d1 at *
        clear hwx HDA HKA HS6 HS5 kf0 kf1 kf2 ky0 ky1 ky2 hlP
        clear w6
        go_upto_region 9 with (go_at_call 55; refine (rauto_any HT6.out.rd ⟨HGn.out, by have := HT6.out.kp.size; omega⟩).mono ?_; rintro e w7 ⟨a, b, c, rfl, hda, hrd, hkp⟩; obtain ⟨x2, p2, y2, q2, z2, s2, rfl, rfl, rfl⟩ := hda.shape; have HDA := hid hda; have HKA := hid hkp; have HS7 := hid (HT6.out.call hrd hkp); have hlP := lt_of_heap HT6.out.hd; clear hda hrd hkp; have kf0 := free_box (i := 3) HS7.out.hd; have ky0 := cell_blk (i := 3) HS7.out.hd rfl; have kf1 := free_box (i := 4) HS7.out.hd; have ky1 := cell_blk (i := 4) HS7.out.hd rfl; have kf2 := free_box (i := 5) HS7.out.hd; have ky2 := cell_blk (i := 5) HS7.out.hd rfl)
        have HDA2 := hid (dfa_set (P := P) (i := 5) (v := .slice z2 (autoR (autoR (bitR rk).2).2).1.fin.length s2) (dfa_set (P := P) (i := 4) (v := .slice y2 (autoR (autoR (bitR rk).2).2).1.next.length q2) (dfa_set (P := P) (i := 3) (v := .slice x2 (autoR (autoR (bitR rk).2).2).1.cls.length p2) (HDA.out.from (show P + 1 ≤ v6.heap.size by omega)))))
        have HDA1 := hid (dfa_set (P := P) (i := 5) (v := .slice z2 (autoR (autoR (bitR rk).2).2).1.fin.length s2) (dfa_set (P := P) (i := 4) (v := .slice y2 (autoR (autoR (bitR rk).2).2).1.next.length q2) (dfa_set (P := P) (i := 3) (v := .slice x2 (autoR (autoR (bitR rk).2).2).1.cls.length p2) (HT6.out.dfa HDA1.out HKA.out))))
        have HT7 := hid (show RuSt S R P wr (((w7.setCell ⟨P, 3, none⟩ (.slice x2 (autoR (autoR (bitR rk).2).2).1.cls.length p2)).setCell ⟨P, 4, none⟩ (.slice y2 (autoR (autoR (bitR rk).2).2).1.next.length q2)).setCell ⟨P, 5, none⟩ (.slice z2 (autoR (autoR (bitR rk).2).2).1.fin.length s2)) 52 #[.slice x1 d1.cls.length p1, .slice y1 d1.next.length q1, .slice z1 d1.fin.length s1, .slice x2 (autoR (autoR (bitR rk).2).2).1.cls.length p2, .slice y2 (autoR (autoR (bitR rk).2).2).1.next.length q2, .slice z2 (autoR (autoR (bitR rk).2).2).1.fin.length s2, .slice none 0 0, .slice none 0 0, .slice none 0 0, .string ⟨#[]⟩, .bool (bitR rk).1, .string ⟨#[]⟩, .slice none 0 0, .slice none 0 0, .slice none 0 0, .slice none 0 0] _ from ((HS7.out.set 3 _).set 4 _).set 5 _)
        generalize hwx : ((w7.setCell ⟨P, 3, none⟩ (.slice x2 (autoR (autoR (bitR rk).2).2).1.cls.length p2)).setCell ⟨P, 4, none⟩ (.slice y2 (autoR (autoR (bitR rk).2).2).1.next.length q2)).setCell ⟨P, 5, none⟩ (.slice z2 (autoR (autoR (bitR rk).2).2).1.fin.length s2) = v7 at *
        generalize (autoR (autoR (bitR rk).2).2).1 = d2 at *
        clear hwx HDA HKA HS7 HT6 kf0 kf1 kf2 ky0 ky1 ky2 hlP
        clear w7
        go_upto_region 10 with (go_at_call 55; refine (rauto_any HT7.out.rd ⟨HGn.out, by have := HT7.out.kp.size; omega⟩).mono ?_; rintro e w8 ⟨a, b, c, rfl, hda, hrd, hkp⟩; obtain ⟨x3, p3, y3, q3, z3, s3, rfl, rfl, rfl⟩ := hda.shape; have HDA := hid hda; have HKA := hid hkp; have HS8 := hid (HT7.out.call hrd hkp); have hlP := lt_of_heap HT7.out.hd; clear hda hrd hkp; have kf0 := free_box (i := 6) HS8.out.hd; have ky0 := cell_blk (i := 6) HS8.out.hd rfl; have kf1 := free_box (i := 7) HS8.out.hd; have ky1 := cell_blk (i := 7) HS8.out.hd rfl; have kf2 := free_box (i := 8) HS8.out.hd; have ky2 := cell_blk (i := 8) HS8.out.hd rfl)
        have HDA3 := hid (dfa_set (P := P) (i := 8) (v := .slice z3 (autoR (autoR (autoR (bitR rk).2).2).2).1.fin.length s3) (dfa_set (P := P) (i := 7) (v := .slice y3 (autoR (autoR (autoR (bitR rk).2).2).2).1.next.length q3) (dfa_set (P := P) (i := 6) (v := .slice x3 (autoR (autoR (autoR (bitR rk).2).2).2).1.cls.length p3) (HDA.out.from (show P + 1 ≤ v7.heap.size by omega)))))
        have HDA1 := hid (dfa_set (P := P) (i := 8) (v := .slice z3 (autoR (autoR (autoR (bitR rk).2).2).2).1.fin.length s3) (dfa_set (P := P) (i := 7) (v := .slice y3 (autoR (autoR (autoR (bitR rk).2).2).2).1.next.length q3) (dfa_set (P := P) (i := 6) (v := .slice x3 (autoR (autoR (autoR (bitR rk).2).2).2).1.cls.length p3) (HT7.out.dfa HDA1.out HKA.out))))
        have HDA2 := hid (dfa_set (P := P) (i := 8) (v := .slice z3 (autoR (autoR (autoR (bitR rk).2).2).2).1.fin.length s3) (dfa_set (P := P) (i := 7) (v := .slice y3 (autoR (autoR (autoR (bitR rk).2).2).2).1.next.length q3) (dfa_set (P := P) (i := 6) (v := .slice x3 (autoR (autoR (autoR (bitR rk).2).2).2).1.cls.length p3) (HT7.out.dfa HDA2.out HKA.out))))
        have HT8 := hid (show RuSt S R P wr (((w8.setCell ⟨P, 6, none⟩ (.slice x3 (autoR (autoR (autoR (bitR rk).2).2).2).1.cls.length p3)).setCell ⟨P, 7, none⟩ (.slice y3 (autoR (autoR (autoR (bitR rk).2).2).2).1.next.length q3)).setCell ⟨P, 8, none⟩ (.slice z3 (autoR (autoR (autoR (bitR rk).2).2).2).1.fin.length s3)) 52 #[.slice x1 d1.cls.length p1, .slice y1 d1.next.length q1, .slice z1 d1.fin.length s1, .slice x2 d2.cls.length p2, .slice y2 d2.next.length q2, .slice z2 d2.fin.length s2, .slice x3 (autoR (autoR (autoR (bitR rk).2).2).2).1.cls.length p3, .slice y3 (autoR (autoR (autoR (bitR rk).2).2).2).1.next.length q3, .slice z3 (autoR (autoR (autoR (bitR rk).2).2).2).1.fin.length s3, .string ⟨#[]⟩, .bool (bitR rk).1, .string ⟨#[]⟩, .slice none 0 0, .slice none 0 0, .slice none 0 0, .slice none 0 0] _ from ((HS8.out.set 6 _).set 7 _).set 8 _)
        generalize hwx : ((w8.setCell ⟨P, 6, none⟩ (.slice x3 (autoR (autoR (autoR (bitR rk).2).2).2).1.cls.length p3)).setCell ⟨P, 7, none⟩ (.slice y3 (autoR (autoR (autoR (bitR rk).2).2).2).1.next.length q3)).setCell ⟨P, 8, none⟩ (.slice z3 (autoR (autoR (autoR (bitR rk).2).2).2).1.fin.length s3) = v8 at *
        generalize (autoR (autoR (autoR (bitR rk).2).2).2).1 = d3 at *
        clear hwx HDA HKA HS8 HT7 kf0 kf1 kf2 ky0 ky1 ky2 hlP
        clear w8
        have hRL' := hRL
        clear hRL
        generalize (autoR (autoR (autoR (bitR rk).2).2).2).2 = r4 at *
        generalize (bitR rk).1 = m at *
        have ky10 := cell_blk (i := 10) HT8.out.hd rfl
        have HRL := hid hRL'
        clear hRL'
        go_upto_if 37 with fail
        go_cut [] (fun wx => ∃ cs : Array Value, RuSt S R P wr wx 52 cs (ruleR rk).2 ∧ RuleIn (fun g => wr.heap.size ≤ g) wx cs.toList (ruleR rk).1)
        case first =>
          have hlP := lt_of_heap HT8.out.hd
          have hPw := HT8.out.lt.2.2
          have NR : ∀ {w9 : World} {a b c v : Value} {d : Dfa} {i : Nat}, DfaIn (fun g => P + 1 ≤ g) w9 a b c d → DfaIn (fun g => wr.heap.size ≤ g) (w9.setCell ⟨P, i, none⟩ v) a b c d := fun h => (dfa_set h).frame (fun g hg => by omega) (fun _ _ _ => rfl)
          cases m
          · have HRL2 := hid (HRL.out.trans (if_neg (by decide)))
            clear HRL
            go_wp2_with (go_at_call 57; refine (rtxt_any HT8.out.rd HGn.out).mono ?_; rintro e w9 ⟨rfl, hrd9, hkp9⟩; have HT9 := hid (HT8.out.call hrd9 hkp9); have HK9 := hid hkp9; clear hrd9 hkp9; have kf9 := free_box (i := 9) HT9.out.hd; have ky9 := cell_blk (i := 9) HT9.out.hd rfl)
            go_meet
            rw [HRL2.out]
            exact ⟨_, HT9.out.set 9 _, ⟨⟨_, _, _, _, _, _, _, _, _, _, _, _, _, _, rfl, NR (HT8.out.dfa HDA1.out HK9.out), NR (HT8.out.dfa HDA2.out HK9.out), NR (HT8.out.dfa HDA3.out HK9.out), rfl, ⟨none, 0, rfl, Nat.zero_le _, fun h => absurd rfl h⟩, ⟨none, 0, rfl, Nat.zero_le _, fun h => absurd rfl h⟩, ⟨none, 0, rfl, Nat.zero_le _, fun h => absurd rfl h⟩, ⟨none, 0, rfl, Nat.zero_le _, fun h => absurd rfl h⟩⟩⟩⟩
          · have HRL2 := hid (HRL.out.trans (if_pos rfl))
            clear HRL
            go_wp2_with (go_at_call 56; refine (rseq_any HT8.out.rd ⟨HGn.out, by have := HT8.out.kp.size; omega⟩).mono ?_; rintro e w9 ⟨f, na, ou, fi, ta, rfl, hq9, hrd9, hkp9⟩; obtain ⟨x4, p4, y4, q4, z4, s4, v4, t4, rfl, rfl, rfl, rfl, rfl⟩ := hq9.shape; have HT9 := hid (HT8.out.call hrd9 hkp9); have HK9 := hid hkp9; have HQ9 := hid hq9; clear hrd9 hkp9 hq9; have kf11 := free_box (i := 11) HT9.out.hd; have ky11 := cell_blk (i := 11) HT9.out.hd rfl; have kf12 := free_box (i := 12) HT9.out.hd; have ky12 := cell_blk (i := 12) HT9.out.hd rfl; have kf13 := free_box (i := 13) HT9.out.hd; have ky13 := cell_blk (i := 13) HT9.out.hd rfl; have kf14 := free_box (i := 14) HT9.out.hd; have ky14 := cell_blk (i := 14) HT9.out.hd rfl; have kf15 := free_box (i := 15) HT9.out.hd; have ky15 := cell_blk (i := 15) HT9.out.hd rfl)
            go_meet
            rw [HRL2.out]
            exact ⟨_, ((((HT9.out.set 11 _).set 12 _).set 13 _).set 14 _).set 15 _, ⟨⟨_, _, _, _, _, _, _, _, _, _, _, _, _, _, rfl, NR (dfa_set (dfa_set (dfa_set (dfa_set (HT8.out.dfa HDA1.out HK9.out))))), NR (dfa_set (dfa_set (dfa_set (dfa_set (HT8.out.dfa HDA2.out HK9.out))))), NR (dfa_set (dfa_set (dfa_set (dfa_set (HT8.out.dfa HDA3.out HK9.out))))), HQ9.out.frame (fun g hg => by omega) (fun g hg _ => (heap_setCell_other _ _ _ _ (by simp; omega)).trans ((heap_setCell_other _ _ _ _ (by simp; omega)).trans ((heap_setCell_other _ _ _ _ (by simp; omega)).trans ((heap_setCell_other _ _ _ _ (by simp; omega)).trans (heap_setCell_other _ _ _ _ (by simp; omega))))))⟩⟩⟩
        case rest =>
          obtain ⟨cs, hru, hri⟩ := hcut
          obtain ⟨ux1, up1, uy1, uq1, uz1, us1, ux2, up2, uy2, uq2, uz2, us2, ux3, up3, uy3, uq3, uz3, us3, ux4, up4, uy4, uq4, uz4, us4, uv4, ut4, hcs⟩ := hri.shape
          have hcs' : cs = (ruleC (ruleR rk).1 ux1 up1 uy1 uq1 uz1 us1 ux2 up2 uy2 uq2 uz2 us2 ux3 up3 uy3 uq3 uz3 us3 ux4 up4 uy4 uq4 uz4 us4 uv4 ut4).toArray := by rw [← hcs]
          subst hcs'
          have HRU := hid hru
          have HRI := hid hri
          clear hru hri hcs ky10
          obtain ⟨vs, e1, e2, e3, e4⟩ := HAG.out
          subst hlk
          obtain ⟨ada, cpa, rfl⟩ := own_shape e3
          have E2 := hid e2
          have E3 := hid e3
          have E4 := hid e4
          clear e2 e3 e4 HAG
          have hk9 : l.length + 1 ≤ maxLen := by unfold maxLen; omega
          have hk8 : (l.length + 1) * 352 ≤ 140737488355328 := by omega
          have HO5 := hid (own_blk (w' := wc) E3.out (fun q hq => HRU.out.kp.block q (own_lt E3.out hq).2 (by have := (own_lt E3.out hq).1; omega)))
          have hszc := HRU.out.kp.size
          have HD5 := hid ((HRU.out.kp.block (w.heap.size + 1) hlD (by omega)).trans HD.out)
          obtain ⟨j0, j1⟩ := twocells HD5.out
          have HRB := hid HRU.out.hd
          unfold ruleC at HRB
          have HRB2 := hid HRB.out
          go_wp2_with (first | (refine wpList_load_blk rfl 52 (.tmp 6) rfl 16 infoRl _ Try.underlying52 rfl P rfl 52 _ HRB2.out rfl ?_) | (at_builtin; refine wpList_append_lies rfl _ _ 22 rfl (w.heap.size + 2) 52 i0 _ 16 352 Try.underlying22 HI.out HZI.out.1 HZI.out.2.1 HZI.out.2.2 rfl (by decide) (.slice ada l.length cpa) l.length vs.flatten rfl (HO5.out.alloc _) ⟨wc.heap.size, 0, none⟩ 1 1 (ruleC (ruleR rk).1 ux1 up1 uy1 uq1 uz1 us1 ux2 up2 uy2 uq2 uz2 us2 ux3 up3 uy3 uq3 uz3 us3 ux4 up4 uy4 uq4 uz4 us4 uv4 ut4) rfl rfl (World.news_of_block (heap_alloc_new _ _)) (ruleC_one (ruleR rk).1 ux1 up1 uy1 uq1 uz1 us1 ux2 up2 uy2 uq2 uz2 us2 ux3 up3 uy3 uq3 uz3 us3 ux4 up4 uy4 uq4 uz4 us4 uv4 ut4) Nat.one_pos hk9 hk8 (by rw [World.size_alloc]; omega) ?_; intro g6 cap6 w6 hown6 hgrow6 hat6 hlt6; have HD6 := hid ((far_rowk HO5.out hgrow6 (by omega) (Nat.lt_succ_self _)).trans HD5.out); have f6 := free_box (i := 0) HD6.out; obtain ⟨o0, o1⟩ := twocells HD6.out))
          have hagg6 := hid (Agg.snoc2 (w0 := wr) (w := wc.alloc _) framed_rule e1 E2.out E3.out E4.out (by rw [World.size_alloc]; omega) (fun g h1 h2 => (alloc_old (by omega)).trans (HRU.out.kp.block g h2 (by omega))) (HRI.out.frame (fun _ h => h) (fun g _ hl => alloc_old hl)) RuleIn.lt rfl (by omega) hown6 hgrow6 hat6)
          have hb7 : Below (w.heap.size + 1) wc (w6.setCell ⟨w.heap.size + 1, 0, none⟩ (.slice (some ⟨g6, 0, none⟩) (l.length + 1) cap6)) := (((Below.refl _ wc).alloc (by omega) _).grown hgrow6 (by simp; omega) (fun q hq => by have := (own_lt HO5.out hq).1; omega)).setCell (by simp) _
          refine And.intro ?_ ?_
          · exact ⟨l.length + 1, l ++ [(ruleR rk).1], _, (ruleR rk).2, by omega, by go_num, by simp, two_set0 _ HD6.out, hagg6.out.keep framed_rule (by simp) (fun g h1 _ => heap_setCell_other _ _ _ _ (by simp; omega)), HRU.out.rd.below hb7 (by omega) (by omega), (HKP.out.trans HRU.out.kp).below (hb7.mono (by omega)), (hb7.block w.heap.size (by omega)).trans ((HRU.out.kp.block w.heap.size (Nat.lt_of_lt_of_le (Nat.lt_succ_self _) (Nat.le_of_lt hlD)) (by omega)).trans HZ.out), HST⟩
          · simp [intOf]; omega
      · have h9 : rulesR n r1 = (l, rk) := by
          have h := hst.out
          rcases hstop with rfl | ⟨_, hbad⟩
          · rw [Nat.sub_self] at h; rw [h]; simp [rulesR]
          · rw [rulesR_bad _ hbad] at h; rw [h]; simp
        have H9 := hid h9
        clear h9 hst
        rcases hstop with rfl | ⟨hlts, hbad⟩
        all_goals try rw [hbad] at z2
        all_goals try clear hbad
        all_goals
          go_wp2_with fail
          go_meet
          rw [H9.out]
          exact ⟨_, HD.out, HAG.out, HRr.out, HKP.out, HZ.out⟩
  case rest =>
    obtain ⟨va, hd, hag, hrd, hkp, hz⟩ := hcut
    generalize (rulesR n r1).1 = l1 at *
    generalize (rulesR n r1).2 = r2 at *
    have hszx := hkp.size
    have hlx := lt_of_heap hd
    have HRD := hid hrd
    obtain ⟨ada, cpa, rfl⟩ := hag.shape
    have HRW := hid (hag.row framed_rule)
    clear hag hrd HZI HI HZ1 HD1 HKP1 HRD1 hs1
    go_wp2_with fail
    refine (rnum_any HRD.out HGn.out).mono ?_
    rintro e wo ⟨rfl, hrd2, hkp2⟩
    have hs2 := hkp2.size
    have HRD2 := hid hrd2
    have HKP2 := hid (hkp.trans hkp2)
    have HZ2 := hid ((hkp2.block w.heap.size (by omega) (by omega)).trans hz)
    have HD2 := hid ((hkp2.block (w.heap.size + 1) (by omega) (by omega)).trans hd)
    have HRW2 := hid (show RulesIn (fun g => w.heap.size + 2 ≤ g ∧ g < wo.heap.size) wo (.slice ada l1.length cpa) l1 from (HRW.out.frame (fun g hg => ⟨hg.1, by omega⟩) (fun g hg hl => hkp2.block g hl (by omega)) (fun _ _ _ h => h)).frame (fun _ h => h) (fun _ _ _ => rfl) (fun _ _ _ h => h.frame (fun g hg => ⟨hg.1, by omega⟩) (fun g hg hl => hkp2.block g hl (by omega))))
    clear hrd2 hkp2 hd hz hkp HRD HRW
    have hm16 := numR_lt r2
    generalize (numR r2).2 = r3 at *
    generalize (numR r2).1 = m at *
    obtain ⟨j0, hj, hy0, hy1, hy2⟩ := info_parts infoCls
    have HJ := hid hj
    have HZJ := hid (And.intro hy0 (And.intro hy1 hy2))
    clear hj hy0 hy1 hy2
    have FIN : ∀ (W : World) (vb : Value) (l : List Cls) (rk : Rd), W.heap[w.heap.size]? = some (.cells #[.slice none 0 0, .slice none 0 0] 25 (0, 0)) → RulesIn (fun g => w.heap.size + 2 ≤ g ∧ g < wo.heap.size) W (.slice ada l1.length cpa) l1 → Agg 58 4 ClsR W wo.heap.size vb l → RfAt S R W rk → Kp R w W → classesR m r3 = (l, rk) →
        RImgPost S R w (imgR r) (.returned (.agg #[.slice ada l1.length cpa, vb])) ((W.setCell ⟨w.heap.size, 0, none⟩ (.slice ada l1.length cpa)).setCell ⟨w.heap.size, 1, none⟩ vb) := by
      intro W vb l rk hz hr hc hrd hkp hcl
      rw [HA.out, hcl]
      have ho : ∀ g, w.heap.size + 1 ≤ g → ((W.setCell ⟨w.heap.size, 0, none⟩ (.slice ada l1.length cpa)).setCell ⟨w.heap.size, 1, none⟩ vb).heap[g]? = W.heap[g]? := fun g hg => (heap_setCell_other _ _ _ _ (by simp; omega)).trans (heap_setCell_other _ _ _ _ (by simp; omega))
      have hb : Below w.heap.size W ((W.setCell ⟨w.heap.size, 0, none⟩ (.slice ada l1.length cpa)).setCell ⟨w.heap.size, 1, none⟩ vb) := ((Below.refl _ W).setCell (by simp) _).setCell (by simp) _
      exact ⟨_, _, rfl, ⟨hr.frame (fun g hg => by omega) (fun g hg _ => ho g (by omega)), ClsIn.frame (hc.row framed_cls |>.frame (fun _ h => h) (fun _ _ _ => rfl) (fun _ _ _ h => h)) (fun g hg => by omega) (fun g hg _ => ho g (by omega))⟩, hrd.below hb hlt hgb, hkp.below hb⟩
    have FINH := hid FIN
    clear FIN HA
    go_wp2_with fail
    go_loopw [7] (fun v wr => ∃ (k : Nat) (l : List Cls) (vb : Value) (rk : Rd), k ≤ m ∧ v = .int .i64 k ∧ l.length = k ∧ wr.heap[w.heap.size + 1]? = some (.cells #[.slice ada l1.length cpa, vb] 25 (0, 0)) ∧ RulesIn (fun g => w.heap.size + 2 ≤ g ∧ g < wo.heap.size) wr (.slice ada l1.length cpa) l1 ∧ Agg 58 4 ClsR wr wo.heap.size vb l ∧ RfAt S R wr rk ∧ Kp R w wr ∧ wo.heap.size ≤ wr.heap.size ∧ wr.heap[w.heap.size]? = some (.cells #[.slice none 0 0, .slice none 0 0] 25 (0, 0)) ∧ Hid (classesR m r3 = (l ++ (classesR (m - k) rk).1, (classesR (m - k) rk).2))) (fun v _ => m - (intOf v).toNat)
    case atStart => exact ⟨0, [], .slice none 0 0, r3, Nat.zero_le _, rfl, rfl, HD2.out, HRW2.out, Agg.nil _ _, HRD2.out, HKP2.out, Nat.le_refl _, HZ2.out, hid (by simp)⟩
    case round =>
      obtain ⟨k, l, vb, rk, hk, rfl, hlk, hd, hru, hag, hrd, hkp, hszo, hz, hst⟩ := hrel
      obtain ⟨z2, zf⟩ := hrd.cells
      have HRr := hid hrd
      obtain ⟨adb, cpb, rfl⟩ := hag.shape
      have HD := hid hd
      have HZ := hid hz
      have HAG := hid hag
      have HRU := hid hru
      have HKP := hid hkp
      have hszr := hkp.size
      have hlD := lt_of_heap hd
      clear hd hz hag hkp hrd hru
      obtain ⟨hlts, hbad⟩ | hstop : ((k : Int) < (m : Int) ∧ rk.bad = false) ∨ (k = m ∨ (k : Int) < (m : Int) ∧ rk.bad = true) := by
        rcases Nat.lt_or_ge k m with h | h
        · cases hb : rk.bad
          · exact .inl ⟨Int.ofNat_lt.2 h, rfl⟩
          · exact .inr (.inr ⟨Int.ofNat_lt.2 h, rfl⟩)
        · exact .inr (.inl (by omega))
      · · have HST : Hid (classesR m r3 = (l ++ [(clsR rk).1] ++ (classesR (m - (k + 1)) (clsR rk).2).1, (classesR (m - (k + 1)) (clsR rk).2).2)) := by
            have h := hst.out
            rw [show m - k = (m - (k + 1)) + 1 by omega, classesR_step _ hbad] at h
            exact hid (by rw [h]; simp)
          rw [hbad] at z2
          clear hbad hst zf
          obtain ⟨vs, e1, e2, e3, e4⟩ := HAG.out
          subst hlk
          have E2 := hid e2
          have E3 := hid e3
          have E4 := hid e4
          clear e2 e3 e4 HAG
          go_wp2_with fail
          refine (rtxt_any HRr.out HGn.out).mono ?_
          rintro e w5 ⟨rfl, hrd5, hkp5⟩
          have HRD5 := hid hrd5
          have HKP5 := hid hkp5
          have hs5 := hkp5.size
          clear hrd5 hkp5
          go_wp2_with fail
          refine (rauto_any (HRD5.out.alloc _) ⟨HGn.out, by simp; omega⟩).mono ?_
          rintro e w6 ⟨a6, b6, c6, rfl, hd6, hrd6, hkp6⟩
          have hc6 := (hkp6.block w5.heap.size (by simp) (by omega)).trans (heap_alloc_new _ _)
          have hs6 := hkp6.size
          rw [World.size_alloc] at hs6
          obtain ⟨xa, pa, xb, pb, xc, pc, rfl, rfl, rfl⟩ := hd6.shape
          have HCL := hid (show clsR rk = (⟨(txtR rk).1, (autoR (txtR rk).2).1⟩, (autoR (txtR rk).2).2) from rfl)
          generalize (autoR (txtR rk).2).1 = dd at *
          generalize (autoR (txtR rk).2).2 = rn at *
          generalize (txtR rk).1 = nm at *
          obtain ⟨y10, y11, y12, y13⟩ := fourcells hc6
          have f11 := free_box (i := 1) hc6
          have f12 := free_box (i := 2) hc6
          have f13 := free_box (i := 3) hc6
          go_upto_region 20 with fail
          have hb7 : Below wr.heap.size w6 (((w6.setCell ⟨w5.heap.size, 1, none⟩ (.slice xa dd.cls.length pa)).setCell ⟨w5.heap.size, 2, none⟩ (.slice xb dd.next.length pb)).setCell ⟨w5.heap.size, 3, none⟩ (.slice xc dd.fin.length pc)) := (((Below.refl _ w6).setCell hs5 _).setCell hs5 _).setCell hs5 _
          have hot7 : ∀ g, g ≠ w5.heap.size → (((w6.setCell ⟨w5.heap.size, 1, none⟩ (.slice xa dd.cls.length pa)).setCell ⟨w5.heap.size, 2, none⟩ (.slice xb dd.next.length pb)).setCell ⟨w5.heap.size, 3, none⟩ (.slice xc dd.fin.length pc)).heap[g]? = w6.heap[g]? := fun g hg => (heap_setCell_other _ _ _ _ hg).trans ((heap_setCell_other _ _ _ _ hg).trans (heap_setCell_other _ _ _ _ hg))
          have hc7 : (((w6.setCell ⟨w5.heap.size, 1, none⟩ (.slice xa dd.cls.length pa)).setCell ⟨w5.heap.size, 2, none⟩ (.slice xb dd.next.length pb)).setCell ⟨w5.heap.size, 3, none⟩ (.slice xc dd.fin.length pc)).heap[w5.heap.size]? = some (.cells #[.string ⟨nm.toArray⟩, .slice xa dd.cls.length pa, .slice xb dd.next.length pb, .slice xc dd.fin.length pc] 58 (0, 0)) := by
            rw [heap_setCell_same _ _ _ _ _ _ (heap_setCell_same _ _ _ _ _ _ (heap_setCell_same _ _ _ _ _ _ hc6))]
            rfl
          have hsz7 : (((w6.setCell ⟨w5.heap.size, 1, none⟩ (.slice xa dd.cls.length pa)).setCell ⟨w5.heap.size, 2, none⟩ (.slice xb dd.next.length pb)).setCell ⟨w5.heap.size, 3, none⟩ (.slice xc dd.fin.length pc)).heap.size = w6.heap.size := by simp
          generalize (((w6.setCell ⟨w5.heap.size, 1, none⟩ (.slice xa dd.cls.length pa)).setCell ⟨w5.heap.size, 2, none⟩ (.slice xb dd.next.length pb)).setCell ⟨w5.heap.size, 3, none⟩ (.slice xc dd.fin.length pc)) = w7 at *
          have hk7 := (((HKP5.out.alloc _).trans hkp6).below hb7)
          have HR7 := hid (hrd6.below hb7 (by omega) (by omega))
          have HX7 := hid (show ClsR (fun g => wr.heap.size ≤ g) w7 [.string ⟨nm.toArray⟩, .slice xa dd.cls.length pa, .slice xb dd.next.length pb, .slice xc dd.fin.length pc] ⟨nm, dd⟩ from ⟨xa, pa, xb, pb, xc, pc, rfl, hd6.frame (fun g hg => by rw [World.size_alloc] at hg; omega) (fun g hg hl => hot7 g (by rw [World.size_alloc] at hg; omega))⟩)
          have HD7 := hid ((hk7.block (w.heap.size + 1) hlD (by omega)).trans HD.out)
          have HZ7 := hid ((hk7.block w.heap.size (by omega) (by omega)).trans HZ.out)
          have HRU7 := hid (HRU.out.frame (F' := fun g => w.heap.size + 2 ≤ g ∧ g < wo.heap.size) (fun _ h => h) (fun g hg hl => hk7.block g hl (by omega)))
          have HK7 := hid hk7
          have HC7 := hid hc7
          have HO7 := hid (own_blk (w' := w7) E3.out (fun q hq => hk7.block q (own_lt E3.out hq).2 (by have := (own_lt E3.out hq).1; omega)))
          have hs7 := hk7.size
          clear hsz7 hb7 hot7 hc7 hk7 hrd6 hkp6 hd6 hc6 y10 y11 y12 y13 f11 f12 f13 z2
          obtain ⟨q0, q1⟩ := twocells HD7.out
          obtain ⟨y10, y11, y12, y13⟩ := fourcells HC7.out
          have f1 := free_box (i := 1) HD7.out
          have A2 : ∀ u ∈ ([.string ⟨nm.toArray⟩, .slice xa dd.cls.length pa, .slice xb dd.next.length pb, .slice xc dd.fin.length pc] : List Value), u.oneCell' = true := by simp only [List.forall_mem_cons]; exact ⟨rfl, rfl, rfl, rfl, fun u hu => by cases hu⟩
          have A3 : l.length + 1 ≤ maxLen := by unfold maxLen; omega
          have A4 : (l.length + 1) * 88 ≤ 140737488355328 := by omega
          have A5 := hid (show ∀ o : Obj, wo.heap.size ≤ (w7.alloc o).heap.size from fun o => by rw [World.size_alloc]; omega)
          go_wp2_with (at_builtin; go_loud (refine wpList_append_lies rfl _ _ 23 rfl wo.heap.size 58 j0 _ 4 88 Try.underlying23 HJ.out HZJ.out.1 HZJ.out.2.1 HZJ.out.2.2 rfl (by decide) _ l.length vs.flatten rfl (HO7.out.alloc _) ⟨w7.heap.size, 0, none⟩ 1 1 [.string ⟨nm.toArray⟩, .slice xa dd.cls.length pa, .slice xb dd.next.length pb, .slice xc dd.fin.length pc] rfl rfl (World.news_of_block (heap_alloc_new _ _)) A2 Nat.one_pos A3 A4 (A5.out _) ?_); intro g8 cap8 w8 hown8 hgrow8 hat8 hlt8; have hd8 := ((hgrow8.block (w.heap.size + 1) (by rw [World.size_alloc]; omega) (fun e => by have := (own_lt E3.out e.symm).1; omega)).trans (alloc_old (by omega))).trans HD7.out; have f8 := free_box (i := 1) hd8; obtain ⟨q8, q9⟩ := twocells hd8; have HD8 := hid hd8; have HOWN8 := hid hown8; have HGR8 := hid hgrow8; have HAT8 := hid hat8; clear hd8 hown8 hgrow8 hat8)
          have hown8 := HOWN8.out
          have hgrow8 := HGR8.out
          have hat8 := HAT8.out
          have hagg8 := hid (Agg.snoc2 (w0 := wr) (w := w7.alloc _) framed_cls e1 E2.out E3.out E4.out (by rw [World.size_alloc]; omega) (fun g h1 h2 => (alloc_old (by omega)).trans (HK7.out.block g h2 (by omega))) (HX7.out.frame (fun _ h => h) (fun g _ hl => alloc_old hl)) ClsR.lt rfl hszo hown8 hgrow8 hat8)
          have HB8 := hid (show Below (w.heap.size + 1) w7 (w8.setCell ⟨w.heap.size + 1, 1, none⟩ (.slice (some ⟨g8, 0, none⟩) (l.length + 1) cap8)) from (((Below.refl _ w7).alloc (by omega) _).grown hgrow8 (by rw [World.size_alloc]; omega) (fun q hq => by have := (own_lt E3.out hq).1; omega)).setCell (by simp) _)
          have HRU8 := hid (HRU7.out.frame (w' := w8.setCell ⟨w.heap.size + 1, 1, none⟩ (.slice (some ⟨g8, 0, none⟩) (l.length + 1) cap8)) (fun _ h => h) (fun g hg hl => (heap_setCell_other _ _ _ _ (by simp; omega)).trans ((hgrow8.block g (by rw [World.size_alloc]; omega) (fun e => by have := (own_lt E3.out e.symm).1; omega)).trans (alloc_old hl))))
          have hs8 := hgrow8.size
          rw [World.size_alloc] at hs8
          clear hown8 hgrow8 hat8 HOWN8 HGR8 HAT8
          go_roundw
          case rel =>
            have h9 := HST.out
            rw [HCL.out] at h9
            exact ⟨l.length + 1, l ++ [⟨nm, dd⟩], _, rn, by omega, by go_num, by simp, two_set1 _ HD8.out, HRU8.out, hagg8.out.keep framed_cls (by simp) (fun g h1 _ => heap_setCell_other _ _ _ _ (by simp; omega)), HR7.out.below HB8.out (by omega) (by omega), (HKP.out.trans HK7.out).below (HB8.out.mono (by omega)), by simp; omega, (HB8.out.block w.heap.size (by omega)).trans HZ7.out, hid h9⟩
          case measure => simp [intOf]; omega
      · obtain ⟨q0, q1⟩ := twocells HD.out
        obtain ⟨y0, y1⟩ := twocells HZ.out
        have f0 := free_box (i := 0) HZ.out
        have f1 := free_box (i := 1) HZ.out
        have h9 : classesR m r3 = (l, rk) := by
          have h := hst.out
          rcases hstop with rfl | ⟨_, hbad⟩
          · rw [Nat.sub_self] at h; rw [h]; simp [classesR]
          · rw [classesR_bad _ hbad] at h; rw [h]; simp
        have H9 := hid h9
        clear h9 hst
        rcases hstop with rfl | ⟨hlts, hbad⟩
        all_goals try rw [hbad] at z2
        all_goals try clear hbad
        all_goals
          go_wp2_with fail
          exact bodyPost_ret (results_cell_row (ty := 25) rfl _ _ w.heap.size 25 _ (0, 0) _ rfl (two_end HZ.out) Try.underlying25 rfl (by kernel_rfl)) rfl (FINH.out _ _ l rk HZ.out HRU.out (by have h := HAG.out; rw [hlk] at h; exact h) HRr.out HKP.out H9.out)
end Go.Proofs.Ytdokeelodcckoaa.Im
