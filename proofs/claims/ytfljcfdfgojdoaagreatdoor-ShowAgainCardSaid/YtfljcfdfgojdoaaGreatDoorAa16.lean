/-
  A slice of items in memory; the contract of file. (Printed by genG.py.)
-/
import Derived.Test.YtfljcfdfgojdoaaGreatDoorAa15
import Derived.Great.Walk
namespace Go.Proofs.YtfljcfdfgojdoaaGreatDoor
open Go.RowKit Go.Lib

def ItsIn (F : Nat → Prop) (w : World) : List It → List Value → Prop
  | [], xs => xs = []
  | x :: r, xs => ∃ cs rest, xs = cs.toList ++ rest ∧ ItIn F w x cs ∧ ItsIn F w r rest
theorem ItsIn.frame {F F' : Nat → Prop} {w w' : World} (hF : ∀ g, F g → g < w.heap.size → F' g) (hf : ∀ g, F g → g < w.heap.size → w'.heap[g]? = w.heap[g]?) : ∀ {l : List It} {xs : List Value}, ItsIn F w l xs → ItsIn F' w' l xs
  | [], _, h => h
  | _ :: _, _, ⟨cs, rest, h1, h2, h3⟩ => ⟨cs, rest, h1, h2.frame hF hf, h3.frame hF hf⟩
theorem ItsIn.snoc {F : Nat → Prop} {w : World} : ∀ {l : List It} {xs : List Value} {r : It} {cs : Array Value}, ItsIn F w l xs → ItIn F w r cs → ItsIn F w (l ++ [r]) (xs ++ cs.toList)
  | [], xs, r, cs, h, h2 => by
    have : xs = [] := h
    subst this
    exact ⟨cs, [], by simp, h2, rfl⟩
  | r0 :: rs, xs, r, cs, ⟨c0, rest, e, h3, h4⟩, h2 => ⟨c0, rest ++ cs.toList, by rw [e]; simp, h3, ItsIn.snoc h4 h2⟩
/-- a slice of items of the call's own -/
structure Its (base : Nat) (w : World) (l : List It) (v : Value) : Prop where
  own : ∃ xs, w.ownsRow base 65 46 v l.length xs ∧ ItsIn (fun g => base ≤ g ∧ some g ≠ v.ownBlock) w l xs
theorem Its.nil (base : Nat) (w : World) : Its base w [] (.slice none 0 0) := ⟨[], World.ownsRow_nil _ _ _ _, rfl⟩
theorem Its.kept {bp base b2 : Nat} {w w' : World} {l : List It} {v : Value} (h : Its base w l v) (hk : Kept bp w w') (hb : bp < base) (h2 : b2 ≤ base) : Its b2 w' l v := by
  obtain ⟨xs, h1, h3⟩ := h.own
  exact ⟨xs, ownsRow_same h1 (fun g hg => Nat.le_trans h2 (own_block h1 hg)) (fun g hg hl => hk.block g hl (fun e => by have := Option.some.inj e; have := own_block h1 hg; omega)),
    h3.frame (fun _ hg _ => ⟨Nat.le_trans h2 hg.1, hg.2⟩) (fun g hg hl => hk.block g hl (fun e => by have := Option.some.inj e; have := hg.1; omega))⟩
theorem Its.shape {base : Nat} {w : World} {l : List It} {v : Value} (h : Its base w l v) : ∃ ad cap, v = .slice ad l.length cap := by
  obtain ⟨xs, h1, h3⟩ := h.own
  exact own_shape h1
theorem Its.snoc {base low g cap : Nat} {w w' : World} {l : List It} {r : It} {v : Value} {xs : List Value} {cs : Array Value}
    (ho : w'.ownsRow base 65 46 (.slice (some ⟨g, 0, none⟩) (l.length + 1) cap) (l.length + 1) (xs ++ cs.toList)) (hp : ItsIn (fun g => base ≤ g ∧ some g ≠ v.ownBlock) w l xs)
    (hr : ItAt low w r cs) (hlow : ∀ g, v.ownBlock = some g → g < low) (hb : base ≤ low) (hg : w.grownBy w' v.ownBlock) (hat : v.ownBlock = some g ∨ g = w.heap.size) :
    Its base w' (l ++ [r]) (.slice (some ⟨g, 0, none⟩) (l ++ [r]).length cap) := by
  have hlen : (l ++ [r]).length = l.length + 1 := by simp
  rw [hlen]
  refine ⟨⟨xs ++ cs.toList, by rw [hlen]; exact ho, ItsIn.snoc (hp.frame (fun g' hg' hl => ⟨hg'.1, ?_⟩) (fun g' hg' hl => hg.block g' hl hg'.2)) (hr.frame (fun g' hg' hl => ⟨Nat.le_trans hb hg', ?_⟩) (fun g' hg' hl => hg.block g' hl (fun e => by have := hlow g' e.symm; omega)))⟩⟩
  · rcases hat with hat | rfl
    · rw [hat] at hg'; exact hg'.2
    · intro e; have := Option.some.inj e; simp at this; omega
  · rcases hat with hat | rfl
    · intro e
      have h1 := Option.some.inj e
      have h2 := hlow g hat
      simp at h1
      omega
    · intro e; have := Option.some.inj e; simp at this; omega
/-- what file leaves -/
def FilePost (T : List Tok) (bp bt cap dep : Nat) (w : World) (x : RX (List It)) (e : Ending) (w' : World) : Prop :=
  Kept bp w w' ∧ match x with
  | .ok (l, a') => Pz T bp bt cap a' dep w' ∧ ∃ v, e = .returned v ∧ Its w.heap.size w' l v
  | .error (p, y) => e = faultE p y
theorem FilePost.bad {T : List Tok} {bp bt cap dep : Nat} {w w' : World} {e : Ending} {x : RX (List It)} {p y : Int} (h : FilePost T bp bt cap dep w x e w') (hx : x = .error (p, y)) : Kept bp w w' ∧ e = faultE p y := by
  subst hx; exact h
theorem FilePost.good {T : List Tok} {bp bt cap dep : Nat} {w w' : World} {e : Ending} {x : RX (List It)} {r : List It} {a' : Nat} (h : FilePost T bp bt cap dep w x e w') (hx : x = .ok (r, a')) :
    Kept bp w w' ∧ Pz T bp bt cap a' dep w' ∧ ∃ v, e = .returned v ∧ Its w.heap.size w' r v := by
  subst hx; exact h
theorem FilePost.mk_bad {T : List Tok} {bp bt cap dep : Nat} {w w' : World} {x : RX (List It)} {p y : Int} {e : Ending} (hx : x = .error (p, y)) (hk : Kept bp w w') (he : e = faultE p y) : FilePost T bp bt cap dep w x e w' := by
  subst hx; exact ⟨hk, he⟩
theorem FilePost.mk_ok {T : List Tok} {bp bt cap dep : Nat} {w w' : World} {x : RX (List It)} {l : List It} {a' : Nat} {v : Value} (hx : x = .ok (l, a')) (hk : Kept bp w w') (hz : Pz T bp bt cap a' dep w') (hi : Its w.heap.size w' l v) : FilePost T bp bt cap dep w x (.returned v) w' := by
  subst hx; exact ⟨hk, hz, v, rfl, hi⟩
theorem own_lt' {w : World} {base e size n : Nat} {v : Value} {xs : List Value} (h : w.ownsRow base e size v n xs) {g : Nat} (hg : v.ownBlock = some g) : g < w.heap.size := by
  rcases h.2 with ⟨rfl, h0⟩ | ⟨g', cap, cur, rfl, hbg, hgg, rest⟩
  · simp [Value.ownBlock] at hg
  · simp [Value.ownBlock] at hg
    subst hg
    exact (Array.getElem?_eq_some_iff.1 hgg).1
theorem kindOf_le (s : List B) : kindOf s ≤ 4 := by
  unfold kindOf
  split
  · omega
  · split
    · omega
    · split
      · omega
      · split <;> omega

theorem news_arr {w : World} {g : Nat} {cs : Array Value} {t : TypeId} (h : w.heap[g]? = some (.cells cs t (0, 0))) : ∀ j u, cs.toList[j]? = some u → w.cell? ((⟨g, 0, none⟩ : Addr).add j) = some u :=
  news_blk (cs := cs.toList) (t := t) (by simpa using h)
theorem itC_len (k : Int) (nm : List B) (r : Rw) (m : Mw) (o b : List B) (ar : Bool) (l q : Rw) : (itC k nm r m o b ar l q).toList.length = 1 * 46 := rfl
theorem built46 (k : Int) (nm : List B) (r : Rw) (m : Mw) (o b : List B) (ar : Bool) (l q : Rw) : Tryz.prog.builtSlice 65 1 [(0, .agg (itC k nm r m o b ar l q))] = some (itC k nm r m o b ar l q) := by kernel_rfl

set_option maxRecDepth 100000 in
set_option maxHeartbeats 8000000 in
theorem file_any {T : List Tok} {bp bt cap a dep : Nat} {w : World} (h : Pz T bp bt cap a dep w) :
    Calls Tryz.prog 60 #[.pointer (some ⟨bp, 0, none⟩)] w (FilePost T bp bt cap dep w (fileM T a dep)) := by
  have hbp := h.bp_lt
  have hbt := h.inb
  have hfew := h.few
  have q0 := field0
  have q1 := field1
  have HG := hid (heap_alloc_new w kindsMap)
  have h0 : Pz T bp bt cap a dep (w.alloc kindsMap) := h.below ((Below.refl _ _).alloc (Nat.le_refl _) _)
  obtain ⟨i0, hi, iz0, iz1, iz2⟩ := info_parts info46'
  have hm0 := hid (show fileM T a dep = fileLoop T dep (T.length + 1) [] a from rfl)
  go_enter Tryz.func60, Tryz.ntmps60
  go_wp2_with (go_at_call 121; refine (kinds_any w).mono ?_; rintro e w1 ⟨rfl, rfl⟩)
  have hat0 : atOf bp (w.alloc kindsMap) = a := h0.atOf
  go_loopw [4] (fun v wr => ∃ (a1 f : Nat) (l : List It), Its (w.heap.size + 1) wr l v ∧ Pz T bp bt cap a1 dep wr ∧ Kept bp (w.alloc kindsMap) wr ∧ l.length ≤ 256 ∧ T.length < a1 + f ∧ Hid (fileM T a dep = fileLoop T dep f l a1)) (fun _ wr => T.length - atOf bp wr)
  case atStart => exact ⟨a, T.length + 1, [], Its.nil _ _, h0, Kept.refl _ _, by simp, by omega, hm0⟩
  case round =>
    clear hat0 hm0 h0
    obtain ⟨a1, f, l, hrs, hz, hk, hl256, hf, H⟩ := hrel
    have hmu := hid hz.atOf
    obtain ⟨f, rfl⟩ : ∃ f', f = f' + 1 := ⟨f - 1, by have := hz.lt; omega⟩
    obtain ⟨ad, cap3, rfl⟩ := hrs.shape
    have hlz := hz.lt
    have hkw : Kept bp w wr := ((Kept.refl bp w).alloc _).trans hk
    have HGr := hid ((hk.block w.heap.size (by simp) (fun e => by have := Option.some.inj e; omega)).trans HG.out)
    have hsr : w.heap.size < wr.heap.size := by have := hk.size; simp at this; omega
    cases hk0 : ((tokAt T a1).kind != 0)
    · have hm := hid (show fileM T a dep = .ok (l, a1) from H.out.trans (by simp only [fileLoop, hk0, Bool.false_eq_true, if_false]))
      clear H
      go_wp2_with (go_at_call 106; (with_reducible refine (tok_any hz).mono ?_); rintro e w1 ⟨rfl, hb1⟩; simp only [Tok.cells])
      go_ret
      exact FilePost.mk_ok hm.out (hkw.trans (Kept.of_below hb1)) (hz.below hb1) (hrs.kept (bp := bp) (Kept.of_below hb1) (by omega) (by omega))
    · by_cases h256 : l.length = 256
      · have hm := hid (show fileM T a dep = .error ((tokAt T a1).pos, 2) from H.out.trans (by simp only [fileLoop, hk0, h256, if_true]))
        have hle : ((l.length : Int) == 256) = true := by rw [h256]; rfl
        clear H
        go_wp2_with (first | (go_at_call 106; (with_reducible refine (tok_any hz).mono ?_); rintro e w1 ⟨rfl, hb1⟩; simp only [Tok.cells]) | (go_at_call 107; refine (fail_any (hz.below hb1) _).mono ?_; rintro e w2 ⟨rfl, hb2⟩))
        exact ⟨rfl, FilePost.mk_bad hm.out (hkw.trans ((Kept.of_below hb1).trans (Kept.of_below hb2))) rfl⟩
      · have hle : ((l.length : Int) == 256) = false := by rw [beq_eq_false_iff_ne]; omega
        by_cases hw : kindOf (tokAt T a1).text = 0
        · have hm := hid (show fileM T a dep = .error ((tokAt T a1).pos, 4) from H.out.trans (by simp only [fileLoop, hk0, h256, hw, if_true, if_false]))
          clear H
          go_wp2_with (first | (go_at_call 106; (with_reducible refine (tok_any hz).mono ?_); rintro e w1 ⟨rfl, hb1⟩; simp only [Tok.cells]) | (go_at_call 106; (with_reducible refine (tok_any (hz.below hb1)).mono ?_); rintro e w2 ⟨rfl, hb2⟩; simp only [Tok.cells]; obtain ⟨vz, hlk⟩ := look_no ((hb2.block _ (Nat.lt_of_lt_of_le hsr hb1.size)).trans ((hb1.block _ hsr).trans HGr.out)) hw) | (go_at_call 107; refine (fail_any ((hz.below hb1).below hb2) _).mono ?_; rintro e w3 ⟨rfl, hb3⟩))
          exact ⟨rfl, FilePost.mk_bad hm.out (hkw.trans ((Kept.of_below (bnext hb1 hb2)).trans (Kept.of_below hb3))) rfl⟩
        · have hle4 := kindOf_le (tokAt T a1).text
          cases hk1 : ((tokAt T a1).kind != 1)
          · have hz1' := hz
            obtain ⟨k, hkd⟩ : ∃ k, kindOf (tokAt T a1).text = k := ⟨_, rfl⟩
            have H1 := hid (show ∀ R : RX (List It), (match itemM k T (a1 + 1) dep with | .error e => .error e | .ok (x, a2) => if isB (tokAt T a2) [59] = true then fileLoop T dep f (l ++ [x]) (a2 + 1) else .error ((tokAt T a2).pos, 4)) = R → fileM T a dep = R from fun R hR => H.out.trans (by simp only [fileLoop, hk0, h256, hw, hk1, Bool.false_eq_true, if_true, if_false]; rw [hkd]; exact hR))
            clear H
            have h4 : k = 1 ∨ k = 2 ∨ k = 3 ∨ k = 4 := by omega
            rcases h4 with rfl | rfl | rfl | rfl
            · have HKD := hid (show kindFn (kindOf (tokAt T a1).text) = fn 151 by rw [hkd]; rfl)
              have hit : itemM 1 T (a1 + 1) dep = namedM 1 T (a1 + 1) dep := rfl
              rcases hx : namedM 1 T (a1 + 1) dep with ⟨p, u⟩ | ⟨x, a2⟩
              · have hm := hid (H1.out (.error (p, u)) (by rw [hit, hx]))
                have HX := hid hx
                clear hx H1 hit
                go_wp2_with (first | (go_at_call 106; (with_reducible refine (tok_any hz).mono ?_); rintro e w1 ⟨rfl, hb1⟩; simp only [Tok.cells]) | (go_at_call 106; (with_reducible refine (tok_any (hz.below hb1)).mono ?_); rintro e w2 ⟨rfl, hb2⟩; simp only [Tok.cells]; have hlk := look_yes ((hb2.block _ (Nat.lt_of_lt_of_le hsr hb1.size)).trans ((hb1.block _ hsr).trans HGr.out)) hw; rw [HKD.out] at hlk) | (go_at_call 122; refine (of_yes ((hz.below hb1).below hb2) _ (by decide) hk1).mono ?_; rintro e w3 ⟨rfl, hk3, hz3⟩) | (go_at_call 151; refine (pdef_any hz3).mono ?_; rintro e w4 hp; obtain ⟨hk4, rfl⟩ := hp.bad HX.out))
                exact ⟨rfl, FilePost.mk_bad hm.out (hkw.trans ((Kept.of_below (bnext hb1 hb2)).trans (hk3.trans hk4))) rfl⟩
              · have HX := hid hx
                have H2 := hid (show ∀ R : RX (List It), (if isB (tokAt T a2) [59] = true then fileLoop T dep f (l ++ [x]) (a2 + 1) else .error ((tokAt T a2).pos, 4)) = R → fileM T a dep = R from fun R hR => H1.out R (by rw [hit, hx]; exact hR))
                clear hx H1 hit
                go_upto_region 11 with (first | (go_at_call 106; (with_reducible refine (tok_any hz).mono ?_); rintro e w1 ⟨rfl, hb1⟩; simp only [Tok.cells]) | (go_at_call 106; (with_reducible refine (tok_any (hz.below hb1)).mono ?_); rintro e w2 ⟨rfl, hb2⟩; simp only [Tok.cells]; have hlk := look_yes ((hb2.block _ (Nat.lt_of_lt_of_le hsr hb1.size)).trans ((hb1.block _ hsr).trans HGr.out)) hw; rw [HKD.out] at hlk) | (go_at_call 122; refine (of_yes ((hz.below hb1).below hb2) _ (by decide) hk1).mono ?_; rintro e w3 ⟨rfl, hk3, hz3⟩) | (go_at_call 151; refine (pdef_any hz3).mono ?_; rintro e w4 hp; obtain ⟨hk4, hl4, hz4, cs, rfl, hr⟩ := hp.good HX.out; obtain ⟨r, m, lq, q, rfl, i1, i2, i3, i4⟩ := hr.ex) | (refine Great.wpList_buildSliceTo rfl 22 65 1 #[(0, .tmp 34)] rfl w4.heap.size rfl (some 35) rfl Tryz.underlying22 (itC x.kind x.name r m x.out x.by_ x.around lq q) (by kernel_rfl) ?_) | (at_builtin; have hrs4 := hrs.kept (bp := bp) ((Kept.of_below (bnext hb1 hb2)).trans (hk3.trans hk4)) (by omega) (Nat.le_refl _); obtain ⟨xs, HOX, hpx⟩ := hrs4.own; have hc1 := news_arr (heap_alloc_new w4 (.cells (itC x.kind x.name r m x.out x.by_ x.around lq q) 65)); have hc3 : l.length + 1 ≤ maxLen := (by unfold maxLen; omega); have hc5 : w.heap.size + 1 ≤ (w4.alloc (.cells (itC x.kind x.name r m x.out x.by_ x.around lq q) 65)).heap.size := Nat.le_trans (by simpa using (hk.trans ((Kept.of_below (bnext hb1 hb2)).trans (hk3.trans hk4))).size) (by simp); refine wpList_append_lies _ rfl (.tmp 31) (.tmp 35) 22 rfl (w.heap.size + 1) 65 i0 _ 46 512 Tryz.underlying22 hi iz0 iz1 iz2 rfl (by decide) _ _ xs rfl (HOX.alloc _) ⟨w4.heap.size, 0, none⟩ 1 1 (itC x.kind x.name r m x.out x.by_ x.around lq q).toList rfl (itC_len _ _ _ _ _ _ _ _ _) hc1 (one_of_all (itC_one _ _ _ _ _ _ _ _ _)) Nat.one_pos hc3 (by omega) hc5 (w4.heap.size + 1) (by simp) ?_))
                intro g cap5 w5 ho5 hg5 hat5 hlt5
                have hs3 : wr.heap.size ≤ w3.heap.size := Nat.le_trans (bnext hb1 hb2).size hk3.size
                have hrow : ∀ g', (Value.slice ad l.length cap3).ownBlock = some g' → w.heap.size + 1 ≤ g' := fun g' hg' => own_block HOX hg'
                have hlow : ∀ g', (Value.slice ad l.length cap3).ownBlock = some g' → g' < w3.heap.size := fun g' hg' => by
                  obtain ⟨xs0, ho0, _⟩ := hrs.own
                  exact Nat.lt_of_lt_of_le (own_lt' ho0 hg') hs3
                have hrs5 := Its.snoc (r := x) ho5 (hpx.frame (fun _ hg _ => hg) (fun g' _ hg' => alloc_old hg')) (hr.frame (fun _ hg _ => hg) (fun g' _ hg' => alloc_old hg')) hlow (by omega) hg5 (by simpa using hat5)
                have hz5 := (hz4.below ((Below.refl _ _).alloc (Nat.le_refl _) _)).grown (B := w.heap.size + 1) (by omega) (by omega) hrow hg5
                have hk5 := ((hk.trans ((Kept.of_below (bnext hb1 hb2)).trans (hk3.trans hk4))).alloc _).grown (B := w.heap.size + 1) (by simp) hrow hg5
                have hl2 : (l ++ [x]).length = l.length + 1 := by simp
                rw [hl2] at hrs5
                have HR5 := hid hrs5
                clear ho5 hg5 hat5 hpx HOX hrow hlow hrs5 hl2
                cases hc : isB (tokAt T a2) [59]
                · have hm := hid (H2.out (.error ((tokAt T a2).pos, 4)) (by rw [hc]; rfl))
                  clear H2
                  go_wp2_with (go_at_call 123; refine (need_no hz5 _ hc).mono ?_; rintro e w6 ⟨rfl, hb6⟩)
                  exact ⟨rfl, FilePost.mk_bad hm.out (((Kept.refl bp w).alloc _).trans (hk5.trans (Kept.of_below hb6))) rfl⟩
                · have hm := hid (H2.out (fileLoop T dep f (l ++ [x]) (a2 + 1)) (by rw [hc]; rfl))
                  clear H2
                  go_wp2_with (go_at_call 123; refine (need_yes hz5 _ hc).mono ?_; rintro e w6 ⟨rfl, hk6, hz6⟩; have HM6 := hid hz6.atOf; have HR6 := hid (HR5.out.kept hk6 (by omega) (Nat.le_refl _)))
                  go_roundw
                  case rel => exact ⟨a2 + 1, f, l ++ [x], (by simpa using HR6.out), hz6, hk5.trans hk6, by simp; omega, by omega, hm.out⟩
                  case measure => rw [hmu.out, HM6.out]; omega
            · have HKD := hid (show kindFn (kindOf (tokAt T a1).text) = fn 152 by rw [hkd]; rfl)
              have hit : itemM 2 T (a1 + 1) dep = mapItemM T (a1 + 1) dep := rfl
              rcases hx : mapItemM T (a1 + 1) dep with ⟨p, u⟩ | ⟨x, a2⟩
              · have hm := hid (H1.out (.error (p, u)) (by rw [hit, hx]))
                have HX := hid hx
                clear hx H1 hit
                go_wp2_with (first | (go_at_call 106; (with_reducible refine (tok_any hz).mono ?_); rintro e w1 ⟨rfl, hb1⟩; simp only [Tok.cells]) | (go_at_call 106; (with_reducible refine (tok_any (hz.below hb1)).mono ?_); rintro e w2 ⟨rfl, hb2⟩; simp only [Tok.cells]; have hlk := look_yes ((hb2.block _ (Nat.lt_of_lt_of_le hsr hb1.size)).trans ((hb1.block _ hsr).trans HGr.out)) hw; rw [HKD.out] at hlk) | (go_at_call 122; refine (of_yes ((hz.below hb1).below hb2) _ (by decide) hk1).mono ?_; rintro e w3 ⟨rfl, hk3, hz3⟩) | (go_at_call 152; refine (mapItem_any hz3).mono ?_; rintro e w4 hp; obtain ⟨hk4, rfl⟩ := hp.bad HX.out))
                exact ⟨rfl, FilePost.mk_bad hm.out (hkw.trans ((Kept.of_below (bnext hb1 hb2)).trans (hk3.trans hk4))) rfl⟩
              · have HX := hid hx
                have H2 := hid (show ∀ R : RX (List It), (if isB (tokAt T a2) [59] = true then fileLoop T dep f (l ++ [x]) (a2 + 1) else .error ((tokAt T a2).pos, 4)) = R → fileM T a dep = R from fun R hR => H1.out R (by rw [hit, hx]; exact hR))
                clear hx H1 hit
                go_upto_region 11 with (first | (go_at_call 106; (with_reducible refine (tok_any hz).mono ?_); rintro e w1 ⟨rfl, hb1⟩; simp only [Tok.cells]) | (go_at_call 106; (with_reducible refine (tok_any (hz.below hb1)).mono ?_); rintro e w2 ⟨rfl, hb2⟩; simp only [Tok.cells]; have hlk := look_yes ((hb2.block _ (Nat.lt_of_lt_of_le hsr hb1.size)).trans ((hb1.block _ hsr).trans HGr.out)) hw; rw [HKD.out] at hlk) | (go_at_call 122; refine (of_yes ((hz.below hb1).below hb2) _ (by decide) hk1).mono ?_; rintro e w3 ⟨rfl, hk3, hz3⟩) | (go_at_call 152; refine (mapItem_any hz3).mono ?_; rintro e w4 hp; obtain ⟨hk4, hl4, hz4, cs, rfl, hr⟩ := hp.good HX.out; obtain ⟨r, m, lq, q, rfl, i1, i2, i3, i4⟩ := hr.ex) | (refine Great.wpList_buildSliceTo rfl 22 65 1 #[(0, .tmp 34)] rfl w4.heap.size rfl (some 35) rfl Tryz.underlying22 (itC x.kind x.name r m x.out x.by_ x.around lq q) (by kernel_rfl) ?_) | (at_builtin; have hrs4 := hrs.kept (bp := bp) ((Kept.of_below (bnext hb1 hb2)).trans (hk3.trans hk4)) (by omega) (Nat.le_refl _); obtain ⟨xs, HOX, hpx⟩ := hrs4.own; have hc1 := news_arr (heap_alloc_new w4 (.cells (itC x.kind x.name r m x.out x.by_ x.around lq q) 65)); have hc3 : l.length + 1 ≤ maxLen := (by unfold maxLen; omega); have hc5 : w.heap.size + 1 ≤ (w4.alloc (.cells (itC x.kind x.name r m x.out x.by_ x.around lq q) 65)).heap.size := Nat.le_trans (by simpa using (hk.trans ((Kept.of_below (bnext hb1 hb2)).trans (hk3.trans hk4))).size) (by simp); refine wpList_append_lies _ rfl (.tmp 31) (.tmp 35) 22 rfl (w.heap.size + 1) 65 i0 _ 46 512 Tryz.underlying22 hi iz0 iz1 iz2 rfl (by decide) _ _ xs rfl (HOX.alloc _) ⟨w4.heap.size, 0, none⟩ 1 1 (itC x.kind x.name r m x.out x.by_ x.around lq q).toList rfl (itC_len _ _ _ _ _ _ _ _ _) hc1 (one_of_all (itC_one _ _ _ _ _ _ _ _ _)) Nat.one_pos hc3 (by omega) hc5 (w4.heap.size + 1) (by simp) ?_))
                intro g cap5 w5 ho5 hg5 hat5 hlt5
                have hs3 : wr.heap.size ≤ w3.heap.size := Nat.le_trans (bnext hb1 hb2).size hk3.size
                have hrow : ∀ g', (Value.slice ad l.length cap3).ownBlock = some g' → w.heap.size + 1 ≤ g' := fun g' hg' => own_block HOX hg'
                have hlow : ∀ g', (Value.slice ad l.length cap3).ownBlock = some g' → g' < w3.heap.size := fun g' hg' => by
                  obtain ⟨xs0, ho0, _⟩ := hrs.own
                  exact Nat.lt_of_lt_of_le (own_lt' ho0 hg') hs3
                have hrs5 := Its.snoc (r := x) ho5 (hpx.frame (fun _ hg _ => hg) (fun g' _ hg' => alloc_old hg')) (hr.frame (fun _ hg _ => hg) (fun g' _ hg' => alloc_old hg')) hlow (by omega) hg5 (by simpa using hat5)
                have hz5 := (hz4.below ((Below.refl _ _).alloc (Nat.le_refl _) _)).grown (B := w.heap.size + 1) (by omega) (by omega) hrow hg5
                have hk5 := ((hk.trans ((Kept.of_below (bnext hb1 hb2)).trans (hk3.trans hk4))).alloc _).grown (B := w.heap.size + 1) (by simp) hrow hg5
                have hl2 : (l ++ [x]).length = l.length + 1 := by simp
                rw [hl2] at hrs5
                have HR5 := hid hrs5
                clear ho5 hg5 hat5 hpx HOX hrow hlow hrs5 hl2
                cases hc : isB (tokAt T a2) [59]
                · have hm := hid (H2.out (.error ((tokAt T a2).pos, 4)) (by rw [hc]; rfl))
                  clear H2
                  go_wp2_with (go_at_call 123; refine (need_no hz5 _ hc).mono ?_; rintro e w6 ⟨rfl, hb6⟩)
                  exact ⟨rfl, FilePost.mk_bad hm.out (((Kept.refl bp w).alloc _).trans (hk5.trans (Kept.of_below hb6))) rfl⟩
                · have hm := hid (H2.out (fileLoop T dep f (l ++ [x]) (a2 + 1)) (by rw [hc]; rfl))
                  clear H2
                  go_wp2_with (go_at_call 123; refine (need_yes hz5 _ hc).mono ?_; rintro e w6 ⟨rfl, hk6, hz6⟩; have HM6 := hid hz6.atOf; have HR6 := hid (HR5.out.kept hk6 (by omega) (Nat.le_refl _)))
                  go_roundw
                  case rel => exact ⟨a2 + 1, f, l ++ [x], (by simpa using HR6.out), hz6, hk5.trans hk6, by simp; omega, by omega, hm.out⟩
                  case measure => rw [hmu.out, HM6.out]; omega
            · have HKD := hid (show kindFn (kindOf (tokAt T a1).text) = fn 153 by rw [hkd]; rfl)
              have hit : itemM 3 T (a1 + 1) dep = ruleM T (a1 + 1) dep := rfl
              rcases hx : ruleM T (a1 + 1) dep with ⟨p, u⟩ | ⟨x, a2⟩
              · have hm := hid (H1.out (.error (p, u)) (by rw [hit, hx]))
                have HX := hid hx
                clear hx H1 hit
                go_wp2_with (first | (go_at_call 106; (with_reducible refine (tok_any hz).mono ?_); rintro e w1 ⟨rfl, hb1⟩; simp only [Tok.cells]) | (go_at_call 106; (with_reducible refine (tok_any (hz.below hb1)).mono ?_); rintro e w2 ⟨rfl, hb2⟩; simp only [Tok.cells]; have hlk := look_yes ((hb2.block _ (Nat.lt_of_lt_of_le hsr hb1.size)).trans ((hb1.block _ hsr).trans HGr.out)) hw; rw [HKD.out] at hlk) | (go_at_call 122; refine (of_yes ((hz.below hb1).below hb2) _ (by decide) hk1).mono ?_; rintro e w3 ⟨rfl, hk3, hz3⟩) | (go_at_call 153; refine (rule_any hz3).mono ?_; rintro e w4 hp; obtain ⟨hk4, rfl⟩ := hp.bad HX.out))
                exact ⟨rfl, FilePost.mk_bad hm.out (hkw.trans ((Kept.of_below (bnext hb1 hb2)).trans (hk3.trans hk4))) rfl⟩
              · have HX := hid hx
                have H2 := hid (show ∀ R : RX (List It), (if isB (tokAt T a2) [59] = true then fileLoop T dep f (l ++ [x]) (a2 + 1) else .error ((tokAt T a2).pos, 4)) = R → fileM T a dep = R from fun R hR => H1.out R (by rw [hit, hx]; exact hR))
                clear hx H1 hit
                go_upto_region 11 with (first | (go_at_call 106; (with_reducible refine (tok_any hz).mono ?_); rintro e w1 ⟨rfl, hb1⟩; simp only [Tok.cells]) | (go_at_call 106; (with_reducible refine (tok_any (hz.below hb1)).mono ?_); rintro e w2 ⟨rfl, hb2⟩; simp only [Tok.cells]; have hlk := look_yes ((hb2.block _ (Nat.lt_of_lt_of_le hsr hb1.size)).trans ((hb1.block _ hsr).trans HGr.out)) hw; rw [HKD.out] at hlk) | (go_at_call 122; refine (of_yes ((hz.below hb1).below hb2) _ (by decide) hk1).mono ?_; rintro e w3 ⟨rfl, hk3, hz3⟩) | (go_at_call 153; refine (rule_any hz3).mono ?_; rintro e w4 hp; obtain ⟨hk4, hl4, hz4, cs, rfl, hr⟩ := hp.good HX.out; obtain ⟨r, m, lq, q, rfl, i1, i2, i3, i4⟩ := hr.ex) | (refine Great.wpList_buildSliceTo rfl 22 65 1 #[(0, .tmp 34)] rfl w4.heap.size rfl (some 35) rfl Tryz.underlying22 (itC x.kind x.name r m x.out x.by_ x.around lq q) (by kernel_rfl) ?_) | (at_builtin; have hrs4 := hrs.kept (bp := bp) ((Kept.of_below (bnext hb1 hb2)).trans (hk3.trans hk4)) (by omega) (Nat.le_refl _); obtain ⟨xs, HOX, hpx⟩ := hrs4.own; have hc1 := news_arr (heap_alloc_new w4 (.cells (itC x.kind x.name r m x.out x.by_ x.around lq q) 65)); have hc3 : l.length + 1 ≤ maxLen := (by unfold maxLen; omega); have hc5 : w.heap.size + 1 ≤ (w4.alloc (.cells (itC x.kind x.name r m x.out x.by_ x.around lq q) 65)).heap.size := Nat.le_trans (by simpa using (hk.trans ((Kept.of_below (bnext hb1 hb2)).trans (hk3.trans hk4))).size) (by simp); refine wpList_append_lies _ rfl (.tmp 31) (.tmp 35) 22 rfl (w.heap.size + 1) 65 i0 _ 46 512 Tryz.underlying22 hi iz0 iz1 iz2 rfl (by decide) _ _ xs rfl (HOX.alloc _) ⟨w4.heap.size, 0, none⟩ 1 1 (itC x.kind x.name r m x.out x.by_ x.around lq q).toList rfl (itC_len _ _ _ _ _ _ _ _ _) hc1 (one_of_all (itC_one _ _ _ _ _ _ _ _ _)) Nat.one_pos hc3 (by omega) hc5 (w4.heap.size + 1) (by simp) ?_))
                intro g cap5 w5 ho5 hg5 hat5 hlt5
                have hs3 : wr.heap.size ≤ w3.heap.size := Nat.le_trans (bnext hb1 hb2).size hk3.size
                have hrow : ∀ g', (Value.slice ad l.length cap3).ownBlock = some g' → w.heap.size + 1 ≤ g' := fun g' hg' => own_block HOX hg'
                have hlow : ∀ g', (Value.slice ad l.length cap3).ownBlock = some g' → g' < w3.heap.size := fun g' hg' => by
                  obtain ⟨xs0, ho0, _⟩ := hrs.own
                  exact Nat.lt_of_lt_of_le (own_lt' ho0 hg') hs3
                have hrs5 := Its.snoc (r := x) ho5 (hpx.frame (fun _ hg _ => hg) (fun g' _ hg' => alloc_old hg')) (hr.frame (fun _ hg _ => hg) (fun g' _ hg' => alloc_old hg')) hlow (by omega) hg5 (by simpa using hat5)
                have hz5 := (hz4.below ((Below.refl _ _).alloc (Nat.le_refl _) _)).grown (B := w.heap.size + 1) (by omega) (by omega) hrow hg5
                have hk5 := ((hk.trans ((Kept.of_below (bnext hb1 hb2)).trans (hk3.trans hk4))).alloc _).grown (B := w.heap.size + 1) (by simp) hrow hg5
                have hl2 : (l ++ [x]).length = l.length + 1 := by simp
                rw [hl2] at hrs5
                have HR5 := hid hrs5
                clear ho5 hg5 hat5 hpx HOX hrow hlow hrs5 hl2
                cases hc : isB (tokAt T a2) [59]
                · have hm := hid (H2.out (.error ((tokAt T a2).pos, 4)) (by rw [hc]; rfl))
                  clear H2
                  go_wp2_with (go_at_call 123; refine (need_no hz5 _ hc).mono ?_; rintro e w6 ⟨rfl, hb6⟩)
                  exact ⟨rfl, FilePost.mk_bad hm.out (((Kept.refl bp w).alloc _).trans (hk5.trans (Kept.of_below hb6))) rfl⟩
                · have hm := hid (H2.out (fileLoop T dep f (l ++ [x]) (a2 + 1)) (by rw [hc]; rfl))
                  clear H2
                  go_wp2_with (go_at_call 123; refine (need_yes hz5 _ hc).mono ?_; rintro e w6 ⟨rfl, hk6, hz6⟩; have HM6 := hid hz6.atOf; have HR6 := hid (HR5.out.kept hk6 (by omega) (Nat.le_refl _)))
                  go_roundw
                  case rel => exact ⟨a2 + 1, f, l ++ [x], (by simpa using HR6.out), hz6, hk5.trans hk6, by simp; omega, by omega, hm.out⟩
                  case measure => rw [hmu.out, HM6.out]; omega
            · have HKD := hid (show kindFn (kindOf (tokAt T a1).text) = fn 154 by rw [hkd]; rfl)
              have hit : itemM 4 T (a1 + 1) dep = namedM 4 T (a1 + 1) dep := rfl
              rcases hx : namedM 4 T (a1 + 1) dep with ⟨p, u⟩ | ⟨x, a2⟩
              · have hm := hid (H1.out (.error (p, u)) (by rw [hit, hx]))
                have HX := hid hx
                clear hx H1 hit
                go_wp2_with (first | (go_at_call 106; (with_reducible refine (tok_any hz).mono ?_); rintro e w1 ⟨rfl, hb1⟩; simp only [Tok.cells]) | (go_at_call 106; (with_reducible refine (tok_any (hz.below hb1)).mono ?_); rintro e w2 ⟨rfl, hb2⟩; simp only [Tok.cells]; have hlk := look_yes ((hb2.block _ (Nat.lt_of_lt_of_le hsr hb1.size)).trans ((hb1.block _ hsr).trans HGr.out)) hw; rw [HKD.out] at hlk) | (go_at_call 122; refine (of_yes ((hz.below hb1).below hb2) _ (by decide) hk1).mono ?_; rintro e w3 ⟨rfl, hk3, hz3⟩) | (go_at_call 154; refine (ptoken_any hz3).mono ?_; rintro e w4 hp; obtain ⟨hk4, rfl⟩ := hp.bad HX.out))
                exact ⟨rfl, FilePost.mk_bad hm.out (hkw.trans ((Kept.of_below (bnext hb1 hb2)).trans (hk3.trans hk4))) rfl⟩
              · have HX := hid hx
                have H2 := hid (show ∀ R : RX (List It), (if isB (tokAt T a2) [59] = true then fileLoop T dep f (l ++ [x]) (a2 + 1) else .error ((tokAt T a2).pos, 4)) = R → fileM T a dep = R from fun R hR => H1.out R (by rw [hit, hx]; exact hR))
                clear hx H1 hit
                go_upto_region 11 with (first | (go_at_call 106; (with_reducible refine (tok_any hz).mono ?_); rintro e w1 ⟨rfl, hb1⟩; simp only [Tok.cells]) | (go_at_call 106; (with_reducible refine (tok_any (hz.below hb1)).mono ?_); rintro e w2 ⟨rfl, hb2⟩; simp only [Tok.cells]; have hlk := look_yes ((hb2.block _ (Nat.lt_of_lt_of_le hsr hb1.size)).trans ((hb1.block _ hsr).trans HGr.out)) hw; rw [HKD.out] at hlk) | (go_at_call 122; refine (of_yes ((hz.below hb1).below hb2) _ (by decide) hk1).mono ?_; rintro e w3 ⟨rfl, hk3, hz3⟩) | (go_at_call 154; refine (ptoken_any hz3).mono ?_; rintro e w4 hp; obtain ⟨hk4, hl4, hz4, cs, rfl, hr⟩ := hp.good HX.out; obtain ⟨r, m, lq, q, rfl, i1, i2, i3, i4⟩ := hr.ex) | (refine Great.wpList_buildSliceTo rfl 22 65 1 #[(0, .tmp 34)] rfl w4.heap.size rfl (some 35) rfl Tryz.underlying22 (itC x.kind x.name r m x.out x.by_ x.around lq q) (by kernel_rfl) ?_) | (at_builtin; have hrs4 := hrs.kept (bp := bp) ((Kept.of_below (bnext hb1 hb2)).trans (hk3.trans hk4)) (by omega) (Nat.le_refl _); obtain ⟨xs, HOX, hpx⟩ := hrs4.own; have hc1 := news_arr (heap_alloc_new w4 (.cells (itC x.kind x.name r m x.out x.by_ x.around lq q) 65)); have hc3 : l.length + 1 ≤ maxLen := (by unfold maxLen; omega); have hc5 : w.heap.size + 1 ≤ (w4.alloc (.cells (itC x.kind x.name r m x.out x.by_ x.around lq q) 65)).heap.size := Nat.le_trans (by simpa using (hk.trans ((Kept.of_below (bnext hb1 hb2)).trans (hk3.trans hk4))).size) (by simp); refine wpList_append_lies _ rfl (.tmp 31) (.tmp 35) 22 rfl (w.heap.size + 1) 65 i0 _ 46 512 Tryz.underlying22 hi iz0 iz1 iz2 rfl (by decide) _ _ xs rfl (HOX.alloc _) ⟨w4.heap.size, 0, none⟩ 1 1 (itC x.kind x.name r m x.out x.by_ x.around lq q).toList rfl (itC_len _ _ _ _ _ _ _ _ _) hc1 (one_of_all (itC_one _ _ _ _ _ _ _ _ _)) Nat.one_pos hc3 (by omega) hc5 (w4.heap.size + 1) (by simp) ?_))
                intro g cap5 w5 ho5 hg5 hat5 hlt5
                have hs3 : wr.heap.size ≤ w3.heap.size := Nat.le_trans (bnext hb1 hb2).size hk3.size
                have hrow : ∀ g', (Value.slice ad l.length cap3).ownBlock = some g' → w.heap.size + 1 ≤ g' := fun g' hg' => own_block HOX hg'
                have hlow : ∀ g', (Value.slice ad l.length cap3).ownBlock = some g' → g' < w3.heap.size := fun g' hg' => by
                  obtain ⟨xs0, ho0, _⟩ := hrs.own
                  exact Nat.lt_of_lt_of_le (own_lt' ho0 hg') hs3
                have hrs5 := Its.snoc (r := x) ho5 (hpx.frame (fun _ hg _ => hg) (fun g' _ hg' => alloc_old hg')) (hr.frame (fun _ hg _ => hg) (fun g' _ hg' => alloc_old hg')) hlow (by omega) hg5 (by simpa using hat5)
                have hz5 := (hz4.below ((Below.refl _ _).alloc (Nat.le_refl _) _)).grown (B := w.heap.size + 1) (by omega) (by omega) hrow hg5
                have hk5 := ((hk.trans ((Kept.of_below (bnext hb1 hb2)).trans (hk3.trans hk4))).alloc _).grown (B := w.heap.size + 1) (by simp) hrow hg5
                have hl2 : (l ++ [x]).length = l.length + 1 := by simp
                rw [hl2] at hrs5
                have HR5 := hid hrs5
                clear ho5 hg5 hat5 hpx HOX hrow hlow hrs5 hl2
                cases hc : isB (tokAt T a2) [59]
                · have hm := hid (H2.out (.error ((tokAt T a2).pos, 4)) (by rw [hc]; rfl))
                  clear H2
                  go_wp2_with (go_at_call 123; refine (need_no hz5 _ hc).mono ?_; rintro e w6 ⟨rfl, hb6⟩)
                  exact ⟨rfl, FilePost.mk_bad hm.out (((Kept.refl bp w).alloc _).trans (hk5.trans (Kept.of_below hb6))) rfl⟩
                · have hm := hid (H2.out (fileLoop T dep f (l ++ [x]) (a2 + 1)) (by rw [hc]; rfl))
                  clear H2
                  go_wp2_with (go_at_call 123; refine (need_yes hz5 _ hc).mono ?_; rintro e w6 ⟨rfl, hk6, hz6⟩; have HM6 := hid hz6.atOf; have HR6 := hid (HR5.out.kept hk6 (by omega) (Nat.le_refl _)))
                  go_roundw
                  case rel => exact ⟨a2 + 1, f, l ++ [x], (by simpa using HR6.out), hz6, hk5.trans hk6, by simp; omega, by omega, hm.out⟩
                  case measure => rw [hmu.out, HM6.out]; omega
          · have hm := hid (show fileM T a dep = .error ((tokAt T a1).pos, 4) from H.out.trans (by simp only [fileLoop, hk0, h256, hw, hk1, if_true, if_false]))
            clear H
            go_wp2_with (first | (go_at_call 106; (with_reducible refine (tok_any hz).mono ?_); rintro e w1 ⟨rfl, hb1⟩; simp only [Tok.cells]) | (go_at_call 106; (with_reducible refine (tok_any (hz.below hb1)).mono ?_); rintro e w2 ⟨rfl, hb2⟩; simp only [Tok.cells]; have hlk := look_yes ((hb2.block _ (Nat.lt_of_lt_of_le hsr hb1.size)).trans ((hb1.block _ hsr).trans HGr.out)) hw) | (go_at_call 122; refine (of_no ((hz.below hb1).below hb2) _ hk1).mono ?_; rintro e w3 ⟨rfl, hb3⟩))
            exact ⟨rfl, FilePost.mk_bad hm.out (hkw.trans ((Kept.of_below (bnext hb1 hb2)).trans (Kept.of_below hb3))) rfl⟩
end Go.Proofs.YtfljcfdfgojdoaaGreatDoor
