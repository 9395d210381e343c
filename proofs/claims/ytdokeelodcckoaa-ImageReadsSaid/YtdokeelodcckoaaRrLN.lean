/-
  What the reference reader makes is what the reader makes (decodeR_eq), and it is short (imgR_few); no program in sight.
-/
import Derived.Test.YtdokeelodcckoaaRrM
import Derived.Test.YtdokeelodcckoaaRg5
namespace Go.Proofs.Ytdokeelodcckoaa.Im

theorem Rd.ext' {r : Rd} {b : List B} (h1 : r.b = b) (h2 : r.bad = false) : r = ⟨b, false⟩ := by
  obtain ⟨x, y⟩ := r
  simp only at h1 h2
  rw [h1, h2]
theorem one1_snd {r : Rd} (hb : (one1 r).2.bad = false) : ∃ c : B, (one1 r).1 = c.toNat ∧ r = ⟨c :: (one1 r).2.b, false⟩ := by
  obtain ⟨b, bad⟩ := r
  rcases b with _ | ⟨c, t⟩
  · simp [one1] at hb
  · simp only [one1] at hb ⊢
    subst hb
    exact ⟨c, rfl, rfl⟩
theorem byte_back (c : B) {n : Nat} (h : n % 256 = c.toNat) : UInt8.ofNat n = c := UInt8.toNat_inj.1 (by rw [byte_of, h])
theorem numR_snd {r : Rd} (hb : (numR r).2.bad = false) : r = ⟨eNum (numR r).1 ++ (numR r).2.b, false⟩ ∧ (numR r).1 < 65536 := by
  unfold numR at hb ⊢
  simp only at hb ⊢
  obtain ⟨c2, h2, e2⟩ := one1_snd hb
  have hb1 : (one1 r).2.bad = false := by rw [e2]
  obtain ⟨c1, h1, e1⟩ := one1_snd hb1
  have l1 := c1.toNat_lt
  have l2 := c2.toNat_lt
  rw [h1, h2]
  refine ⟨?_, by omega⟩
  have e3 : eNum ((256 * c1.toNat + c2.toNat : Nat) : Int) = [c1, c2] := by
    unfold eNum
    rw [Int.toNat_natCast, byte_back c1 (by omega), byte_back c2 (by omega)]
  rw [e3]
  calc r = ⟨c1 :: (one1 r).2.b, false⟩ := e1
    _ = _ := by
      have := congrArg Rd.b e2
      simp only at this
      rw [this]
      rfl
theorem txtR_snd {r : Rd} (hb : (txtR r).2.bad = false) : r = ⟨eText (txtR r).1 ++ (txtR r).2.b, false⟩ ∧ (txtR r).1.length < 65536 := by
  unfold txtR at hb ⊢
  split at hb
  · cases hb
  · rename_i hl
    rw [if_neg hl]
    simp only at hb ⊢
    obtain ⟨h1, h2⟩ := numR_snd hb
    have h3 : ((numR r).2.b.take (numR r).1).length = (numR r).1 := by rw [List.length_take]; omega
    refine ⟨?_, by omega⟩
    unfold eText
    rw [h3, List.append_assoc, List.take_append_drop]
    exact h1
theorem bitR_snd {r : Rd} (hb : (bitR r).2.bad = false) : r = ⟨eBit (bitR r).1 ++ (bitR r).2.b, false⟩ := by
  unfold bitR at hb ⊢
  simp only [Bool.or_eq_false_iff, decide_eq_false_iff_not] at hb
  obtain ⟨hb, h1⟩ := hb
  obtain ⟨c, h2, h3⟩ := one1_snd hb
  simp only
  rw [h2] at h1 ⊢
  have e : eBit (decide (c.toNat = 1)) = [c] := by
    unfold eBit
    by_cases hc : c.toNat = 1
    · rw [decide_eq_true hc, if_pos rfl]
      congr 1
      exact UInt8.toNat_inj.1 (by rw [hc]; rfl)
    · rw [decide_eq_false hc, if_neg (by simp)]
      congr 1
      exact UInt8.toNat_inj.1 (by rw [show (0 : B).toNat = 0 from rfl]; omega)
  rw [e]
  exact h3
theorem onesR_snd : ∀ (k : Nat) (r : Rd), (onesR k r).2.bad = false → r = ⟨eClass (onesR k r).1 ++ (onesR k r).2.b, false⟩ ∧ (onesR k r).1.length = k
  | 0, r, hb => ⟨Rd.ext' rfl hb, rfl⟩
  | k + 1, r, hb => by
    simp only [onesR] at hb ⊢
    obtain ⟨h1, h2⟩ := onesR_snd k _ hb
    have hb1 : (one1 r).2.bad = false := by rw [h1]
    obtain ⟨c, h3, h4⟩ := one1_snd hb1
    refine ⟨?_, by rw [List.length_cons, h2]⟩
    have e : eClass (((one1 r).1 : Int) :: (onesR k (one1 r).2).1) = c :: eClass (onesR k (one1 r).2).1 := by
      unfold eClass
      rw [List.map_cons, h3, Int.toNat_natCast, byte_back c (Nat.mod_eq_of_lt c.toNat_lt)]
    rw [e]
    calc r = ⟨c :: (one1 r).2.b, false⟩ := h4
      _ = _ := by
        have := congrArg Rd.b h1
        simp only at this
        rw [this]
        rfl
theorem numsR_snd : ∀ (k : Nat) (r : Rd), (numsR k r).2.bad = false → r = ⟨eNums (numsR k r).1 ++ (numsR k r).2.b, false⟩ ∧ (numsR k r).1.length = k
  | 0, r, hb => ⟨Rd.ext' rfl hb, rfl⟩
  | k + 1, r, hb => by
    simp only [numsR] at hb ⊢
    split at hb
    · rename_i h; rw [h] at hb; cases hb
    · rename_i hbad
      rw [if_neg hbad]
      simp only at hb ⊢
      obtain ⟨h1, h2⟩ := numsR_snd k _ hb
      have hb1 : (numR r).2.bad = false := by rw [h1]
      obtain ⟨h3, _⟩ := numR_snd hb1
      refine ⟨?_, by rw [List.length_cons, h2]⟩
      have e : eNums (((numR r).1 : Int) :: (numsR k (numR r).2).1) = eNum (numR r).1 ++ eNums (numsR k (numR r).2).1 := by simp [eNums]
      rw [e]
      calc r = ⟨eNum (numR r).1 ++ (numR r).2.b, false⟩ := h3
        _ = _ := by
          have := congrArg Rd.b h1
          simp only at this
          rw [this, List.append_assoc]
theorem statesR_snd (k : Nat) : ∀ (n : Nat) (r : Rd), (statesR k n r).2.bad = false → r = ⟨eStates (statesR k n r).1.1 (statesR k n r).1.2 ++ (statesR k n r).2.b, false⟩ ∧ (statesR k n r).1.1.length = n ∧ (statesR k n r).1.2.length = n ∧ ∀ x ∈ (statesR k n r).1.2, x.length = k
  | 0, r, hb => ⟨Rd.ext' rfl hb, rfl, rfl, fun x hx => by cases hx⟩
  | n + 1, r, hb => by
    simp only [statesR] at hb ⊢
    split at hb
    · rename_i h; rw [h] at hb; cases hb
    · rename_i hbad
      rw [if_neg hbad]
      simp only at hb ⊢
      obtain ⟨h1, h2, h3, h4⟩ := statesR_snd k n _ hb
      have hb1 : (numsR k (bitR r).2).2.bad = false := by rw [h1]
      obtain ⟨h5, h6⟩ := numsR_snd k _ hb1
      have hb2 : (bitR r).2.bad = false := by rw [h5]
      have h7 := bitR_snd hb2
      refine ⟨?_, by rw [List.length_cons, h2], by rw [List.length_cons, h3], fun x hx => ?_⟩
      · simp only [eStates]
        calc r = ⟨eBit (bitR r).1 ++ (bitR r).2.b, false⟩ := h7
          _ = _ := by
            have e1 := congrArg Rd.b h5
            have e2 := congrArg Rd.b h1
            simp only at e1 e2
            rw [e1, e2]
            simp only [List.append_assoc]
      · rcases List.mem_cons.1 hx with rfl | hx
        · exact h6
        · exact h4 x hx
theorem autoHead_snd {r : Rd} (hb : (autoHead r).2.2.2.bad = false) : r = ⟨eNum (autoHead r).1 ++ (eNum (autoHead r).2.1 ++ (eClass (autoHead r).2.2.1 ++ (autoHead r).2.2.2.b)), false⟩ := by
  unfold autoHead at hb ⊢
  simp only [Bool.or_eq_false_iff] at hb
  simp only
  obtain ⟨h1, h2⟩ := onesR_snd 256 _ hb.1
  have hb1 : (numR (numR r).2).2.bad = false := by rw [h1]
  obtain ⟨h3, _⟩ := numR_snd hb1
  have hb2 : (numR r).2.bad = false := by rw [h3]
  obtain ⟨h5, _⟩ := numR_snd hb2
  calc r = _ := h5
    _ = _ := by
      have e1 := congrArg Rd.b h3
      have e2 := congrArg Rd.b h1
      simp only at e1 e2
      rw [e1, e2]
theorem autoR_snd {r : Rd} (hb : (autoR r).2.bad = false) : r = ⟨eDfa (autoR r).1 ++ (autoR r).2.b, false⟩ ∧ dfaOk (autoR r).1 = true := by
  have hx : autoR r = (⟨(autoHead r).2.2.1, (statesR (autoHead r).2.1 (autoHead r).1 (autoHead r).2.2.2).1.2, (statesR (autoHead r).2.1 (autoHead r).1 (autoHead r).2.2.2).1.1⟩, ⟨(statesR (autoHead r).2.1 (autoHead r).1 (autoHead r).2.2.2).2.b, (statesR (autoHead r).2.1 (autoHead r).1 (autoHead r).2.2.2).2.bad || !dfaOk ⟨(autoHead r).2.2.1, (statesR (autoHead r).2.1 (autoHead r).1 (autoHead r).2.2.2).1.2, (statesR (autoHead r).2.1 (autoHead r).1 (autoHead r).2.2.2).1.1⟩⟩) := rfl
  rw [hx] at hb ⊢
  simp only [Bool.or_eq_false_iff, Bool.not_eq_false'] at hb
  obtain ⟨hb, hok⟩ := hb
  obtain ⟨h1, h2, h3, h4⟩ := statesR_snd _ _ _ hb
  have hb1 : (autoHead r).2.2.2.bad = false := by rw [h1]
  have h5 := autoHead_snd hb1
  refine ⟨?_, hok⟩
  obtain ⟨m, hi⟩ := dfaOk_is hok
  have hs := hi.some
  have hk : ((autoHead r).2.1 : Int) = classesIn (autoHead r).2.2.1 := by
    have p4 : classesIn (autoHead r).2.2.1 = m := (parts_spec _ _ _ hi.parts).2.2.2
    rw [p4]
    simp only at hs
    have h6 := hi.rows _ (List.getElem_mem (show 0 < (statesR (autoHead r).2.1 (autoHead r).1 (autoHead r).2.2.2).1.2.length by omega))
    have h7 := h4 _ (List.getElem_mem (show 0 < (statesR (autoHead r).2.1 (autoHead r).1 (autoHead r).2.2.2).1.2.length by omega))
    simp only [rowOk, Bool.and_eq_true, decide_eq_true_eq] at h6
    omega
  simp only
  unfold eDfa
  simp only
  rw [h3, ← hk]
  have e1 := congrArg Rd.b h1
  simp only at e1
  rw [e1] at h5
  simpa only [List.append_assoc] using h5
/-! arcs -/
theorem eArcs_none : ∀ (j b : Nat) (zs : List Int) (os : List (List B)), j ≤ zs.length → j ≤ os.length → (∀ i (h : i < zs.length), i < j → zs[i] = -1) → eArcs b zs os = eArcs (b + j) (zs.drop j) (os.drop j)
  | 0, _, _, _, _, _, _ => rfl
  | j + 1, b, [], _, h, _, _ => by simp at h
  | j + 1, b, _ :: _, [], _, h, _ => by simp at h
  | j + 1, b, z :: zs, o :: os, h1, h2, h => by
    have hz : z = -1 := h 0 (by simp) (by omega)
    have ih := eArcs_none j (b + 1) zs os (by simpa using h1) (by simpa using h2) (fun i hi hj => by have := h (i + 1) (by simpa using hi) (by omega); simpa using this)
    subst hz
    simp only [eArcs, List.drop_succ_cons]
    rw [if_neg (by omega), List.nil_append, ih]
    congr 1
    omega
theorem arcsIn_none (j : Nat) (zs : List Int) (h : ∀ i (h : i < zs.length), i < j → zs[i] = -1) : arcsIn zs = arcsIn (zs.drop j) := by
  have e : arcsIn zs = arcsIn (zs.take j) + arcsIn (zs.drop j) := by
    unfold arcsIn
    rw [← List.length_append, ← List.filter_append, List.take_append_drop]
  have e0 : arcsIn (zs.take j) = 0 := by
    unfold arcsIn
    rw [List.length_eq_zero_iff, List.filter_eq_nil_iff]
    intro z hz
    obtain ⟨i, hi, rfl⟩ := List.getElem_of_mem hz
    rw [List.length_take] at hi
    rw [List.getElem_take, h i (by omega) (by omega)]
    simp
  omega
theorem arcsR_bad : ∀ (m : Nat) (last : Int) (x : List Int × List (List B)) (r : Rd), (arcsR m last x r).2.bad = false → r.bad = false
  | 0, _, _, _, h => h
  | m + 1, _, _, r, h => by
    simp only [arcsR] at h
    split at h
    · exact h
    · simpa using ‹¬ r.bad = true›
/-- what arcsR takes, from a place on -/
theorem arcsR_snd : ∀ (m : Nat) (at_ : Nat) (x : List Int × List (List B)) (r : Rd), x.1.length = 256 → x.2.length = 256 → at_ ≤ 256 → (∀ i (h : i < x.1.length), at_ ≤ i → x.1[i] = -1) → (arcsR m ((at_ : Int) - 1) x r).2.bad = false →
    (arcsR m ((at_ : Int) - 1) x r).1.1.length = 256 ∧ (arcsR m ((at_ : Int) - 1) x r).1.2.length = 256 ∧ (∀ i, i < at_ → (arcsR m ((at_ : Int) - 1) x r).1.1[i]? = x.1[i]? ∧ (arcsR m ((at_ : Int) - 1) x r).1.2[i]? = x.2[i]?) ∧
    m = arcsIn ((arcsR m ((at_ : Int) - 1) x r).1.1.drop at_) ∧ r = ⟨eArcs at_ ((arcsR m ((at_ : Int) - 1) x r).1.1.drop at_) ((arcsR m ((at_ : Int) - 1) x r).1.2.drop at_) ++ (arcsR m ((at_ : Int) - 1) x r).2.b, false⟩
  | 0, at_, x, r, h1, h2, h3, h4, hb => by
    simp only [arcsR] at hb ⊢
    have hn : ∀ i (h : i < (x.1.drop at_).length), i < 256 - at_ → (x.1.drop at_)[i] = -1 := fun i h _ => by
      rw [List.getElem_drop]
      exact h4 _ _ (by omega)
    have hl : (x.1.drop at_).length = 256 - at_ := by rw [List.length_drop, h1]
    have hl2 : (x.2.drop at_).length = 256 - at_ := by rw [List.length_drop, h2]
    refine ⟨h1, h2, fun _ _ => by simp, ?_, ?_⟩
    · rw [arcsIn_none (256 - at_) _ hn, List.drop_eq_nil_of_le (by omega)]
      rfl
    · rw [eArcs_none (256 - at_) at_ _ _ (by omega) (by omega) hn, show (x.1.drop at_).drop (256 - at_) = [] from List.drop_eq_nil_of_le (by simp; omega)]
      exact Rd.ext' rfl hb
  | m + 1, at_, x, r, h1, h2, h3, h4, hb => by
    simp only [arcsR] at hb ⊢
    split at hb
    · rename_i h; rw [h] at hb; cases hb
    · rename_i hbad
      rw [if_neg hbad]
      have hcast : ∀ c : Nat, (c : Int) = ((c + 1 : Nat) : Int) - 1 := fun c => by omega
      generalize hc : one1 r = oc at *
      generalize hz : numR ⟨oc.2.b, oc.2.bad || decide ((oc.1 : Int) ≤ (at_ : Int) - 1)⟩ = oz at *
      generalize ho : txtR oz.2 = oo at *
      have hval : oc.1 < 256 := by
        rw [← hc]
        unfold one1
        split
        · exact Nat.zero_lt_succ _
        · exact (UInt8.toNat_lt _)
      by_cases hle : (oc.1 : Int) ≤ (at_ : Int) - 1
      · -- it did not rise: bad for good
        exfalso
        have hb1 := arcsR_bad _ _ _ _ hb
        rw [← ho] at hb1
        obtain ⟨e1, _⟩ := txtR_snd hb1
        have hb2 : oz.2.bad = false := by rw [e1]
        rw [← hz] at hb2
        obtain ⟨e2, _⟩ := numR_snd hb2
        have hb3 := congrArg Rd.bad e2
        simp only [Bool.or_eq_false_iff, decide_eq_false_iff_not] at hb3
        exact hb3.2 hle
      · rw [hcast oc.1] at hb ⊢
        have hx1 : (x.1.set oc.1 (oz.1 : Int)).length = 256 := by rw [List.length_set, h1]
        have hx2 : (x.2.set oc.1 oo.1).length = 256 := by rw [List.length_set, h2]
        obtain ⟨k1, k2, k3, k4, k5⟩ := arcsR_snd m (oc.1 + 1) (x.1.set oc.1 (oz.1 : Int), x.2.set oc.1 oo.1) oo.2 hx1 hx2 (by omega) (fun i hi hle2 => by
          simp only
          rw [List.getElem_set_ne (by omega)]
          exact h4 i (by simpa using hi) (by omega)) hb
        generalize arcsR m (((oc.1 + 1 : Nat) : Int) - 1) (x.1.set oc.1 (oz.1 : Int), x.2.set oc.1 oo.1) oo.2 = y at *
        simp only at k3
        have hb1 : oo.2.bad = false := by rw [k5]
        rw [← ho] at hb1
        obtain ⟨e1, _⟩ := txtR_snd hb1
        rw [ho] at e1
        have hb2 : oz.2.bad = false := by rw [e1]
        rw [← hz] at hb2
        obtain ⟨e2, _⟩ := numR_snd hb2
        rw [hz] at e2
        have hb3 := congrArg Rd.bad e2
        simp only [Bool.or_eq_false_iff] at hb3
        have hb4 : (one1 r).2.bad = false := by rw [hc]; exact hb3.1
        obtain ⟨c, e3, e4⟩ := one1_snd hb4
        rw [hc] at e3 e4
        have hat : at_ ≤ oc.1 := by omega
        have hl1 : oc.1 < y.1.1.length := by omega
        have hl2 : oc.1 < y.1.2.length := by omega
        have hz1 : y.1.1[oc.1] = (oz.1 : Int) := by
          have h := (k3 oc.1 (by omega)).1
          rw [List.getElem?_eq_getElem hl1, List.getElem?_set_self (by omega)] at h
          exact Option.some.inj h
        have hz2 : y.1.2[oc.1] = oo.1 := by
          have h := (k3 oc.1 (by omega)).2
          rw [List.getElem?_eq_getElem hl2, List.getElem?_set_self (by omega)] at h
          exact Option.some.inj h
        have hgap : ∀ i (h : i < (y.1.1.drop at_).length), i < oc.1 - at_ → (y.1.1.drop at_)[i] = -1 := fun i h hi => by
          rw [List.getElem_drop]
          rw [List.length_drop] at h
          have h5 := (k3 (at_ + i) (by omega)).1
          rw [List.getElem?_eq_getElem (by omega), List.getElem?_set_ne (by omega), List.getElem?_eq_getElem (by omega)] at h5
          rw [Option.some.inj h5]
          exact h4 _ _ (by omega)
        have hd1 : (y.1.1.drop at_).drop (oc.1 - at_) = (oz.1 : Int) :: y.1.1.drop (oc.1 + 1) := by
          rw [List.drop_drop, show at_ + (oc.1 - at_) = oc.1 by omega, List.drop_eq_getElem_cons hl1, hz1]
        have hd2 : (y.1.2.drop at_).drop (oc.1 - at_) = oo.1 :: y.1.2.drop (oc.1 + 1) := by
          rw [List.drop_drop, show at_ + (oc.1 - at_) = oc.1 by omega, List.drop_eq_getElem_cons hl2, hz2]
        refine ⟨k1, k2, fun i hi => ?_, ?_, ?_⟩
        · have h := k3 i (by omega)
          rw [List.getElem?_set_ne (by omega), List.getElem?_set_ne (by omega)] at h
          exact h
        · rw [arcsIn_none (oc.1 - at_) _ hgap, hd1]
          have e5 : arcsIn ((oz.1 : Int) :: y.1.1.drop (oc.1 + 1)) = arcsIn (y.1.1.drop (oc.1 + 1)) + 1 := by simp [arcsIn]
          rw [e5, ← k4]
        · rw [eArcs_none (oc.1 - at_) at_ _ _ (by rw [List.length_drop]; omega) (by rw [List.length_drop]; omega) hgap, hd1, hd2, show at_ + (oc.1 - at_) = oc.1 by omega]
          simp only [eArcs]
          rw [if_pos (by omega)]
          unfold eArc
          rw [e4, e3, byte_back c (Nat.mod_eq_of_lt c.toNat_lt)]
          have f1 := congrArg Rd.b e2
          have f2 := congrArg Rd.b e1
          have f3 := congrArg Rd.b k5
          simp only at f1 f2 f3
          rw [f1, f2, f3]
          rw [← e3]
          simp only [List.cons_append, List.append_assoc]
theorem blank_fst : blank.1.length = 256 := by unfold blank; exact List.length_replicate
theorem blank_snd : blank.2.length = 256 := by unfold blank; exact List.length_replicate
theorem rowR_snd {r : Rd} (hb : (rowR r).2.bad = false) : r = ⟨eNum (arcsIn (rowR r).1.1) ++ (eArcs 0 (rowR r).1.1 (rowR r).1.2 ++ (rowR r).2.b), false⟩ ∧ (rowR r).1.1.length = 256 ∧ (rowR r).1.2.length = 256 := by
  unfold rowR at hb ⊢
  have h0 : (-1 : Int) = ((0 : Nat) : Int) - 1 := by omega
  rw [h0] at hb ⊢
  obtain ⟨h1, h2, _, h4, h5⟩ := arcsR_snd (numR r).1 0 blank (numR r).2 blank_fst blank_snd (Nat.zero_le _) (fun i h _ => by unfold blank at h ⊢; exact List.getElem_replicate h) hb
  have hb1 : (numR r).2.bad = false := by rw [h5]
  obtain ⟨h6, _⟩ := numR_snd hb1
  refine ⟨?_, h1, h2⟩
  simp only [List.drop_zero] at h4 h5
  calc r = ⟨eNum (numR r).1 ++ (numR r).2.b, false⟩ := h6
    _ = _ := by
      have f := congrArg Rd.b h5
      simp only at f
      rw [← h4, f]
theorem tailR_snd {e : Bool} {r : Rd} (hb : (tailR e r).2.bad = false) : r = ⟨eTail e (tailR e r).1 ++ (tailR e r).2.b, false⟩ := by
  unfold tailR eTail at *
  cases e
  · simp only [Bool.false_eq_true, if_false] at hb ⊢
    exact Rd.ext' rfl hb
  · simp only [if_true] at hb ⊢
    exact (txtR_snd hb).1
theorem sstateR_snd {r : Rd} (hb : (sstateR r).2.bad = false) : r = ⟨eBit (sstateR r).1.fin ++ eTail (sstateR r).1.fin (sstateR r).1.tail ++ eNum (arcsIn (sstateR r).1.next) ++ eArcs 0 (sstateR r).1.next (sstateR r).1.outs ++ (sstateR r).2.b, false⟩ := by
  unfold sstateR at hb ⊢
  simp only at hb ⊢
  obtain ⟨h1, _⟩ := rowR_snd hb
  have hb1 : (tailR (bitR r).1 (bitR r).2).2.bad = false := by rw [h1]
  have h2 := tailR_snd hb1
  have hb2 : (bitR r).2.bad = false := by rw [h2]
  have h3 := bitR_snd hb2
  calc r = _ := h3
    _ = _ := by
      have f1 := congrArg Rd.b h2
      have f2 := congrArg Rd.b h1
      simp only at f1 f2
      rw [f1, f2]
      simp only [List.append_assoc]
theorem sstatesR_snd : ∀ (k : Nat) (r : Rd), (sstatesR k r).2.bad = false → r = ⟨eSStates ((sstatesR k r).1.map (·.next)) ((sstatesR k r).1.map (·.outs)) ((sstatesR k r).1.map (·.fin)) ((sstatesR k r).1.map (·.tail)) ++ (sstatesR k r).2.b, false⟩ ∧ (sstatesR k r).1.length = k
  | 0, r, hb => ⟨Rd.ext' rfl hb, rfl⟩
  | k + 1, r, hb => by
    simp only [sstatesR] at hb ⊢
    split at hb
    · rename_i h; rw [h] at hb; cases hb
    · rename_i hbad
      rw [if_neg hbad]
      simp only at hb ⊢
      obtain ⟨h1, h2⟩ := sstatesR_snd k _ hb
      have hb1 : (sstateR r).2.bad = false := by rw [h1]
      have h3 := sstateR_snd hb1
      refine ⟨?_, by rw [List.length_cons, h2]⟩
      simp only [List.map_cons, eSStates]
      have f := congrArg Rd.b h1
      simp only at f
      rw [f] at h3
      simpa only [List.append_assoc] using h3
theorem sqR_snd {r : Rd} (hb : (sqR r).2.bad = false) : r = ⟨eSq (sqR r).1 ++ (sqR r).2.b, false⟩ := by
  unfold sqR at hb ⊢
  simp only at hb ⊢
  obtain ⟨h1, h2⟩ := sstatesR_snd _ _ hb
  have hb0 := congrArg Rd.bad h1
  simp only [Bool.or_eq_false_iff] at hb0
  obtain ⟨h3, _⟩ := numR_snd hb0.1
  have hb2 : (txtR r).2.bad = false := by rw [h3]
  obtain ⟨h4, _⟩ := txtR_snd hb2
  unfold eSq
  simp only [List.length_map, h2]
  have f1 := congrArg Rd.b h1
  have f2 := congrArg Rd.b h3
  simp only at f1 f2
  rw [f2, f1] at h4
  simpa only [List.append_assoc] using h4
theorem ruleR_snd {r : Rd} (hb : (ruleR r).2.bad = false) : r = ⟨eRule (ruleR r).1 ++ (ruleR r).2.b, false⟩ := by
  have key : ∀ (y : Rd), (autoR (autoR (autoR (bitR r).2).2).2).2 = y → y.bad = false → r = ⟨eBit (bitR r).1 ++ eDfa (autoR (bitR r).2).1 ++ eDfa (autoR (autoR (bitR r).2).2).1 ++ eDfa (autoR (autoR (autoR (bitR r).2).2).2).1 ++ y.b, false⟩ := by
    intro y hy hb
    have b3 : (autoR (autoR (autoR (bitR r).2).2).2).2.bad = false := by rw [hy]; exact hb
    obtain ⟨h3, _⟩ := autoR_snd b3
    have b2 : (autoR (autoR (bitR r).2).2).2.bad = false := by rw [h3]
    obtain ⟨h2, _⟩ := autoR_snd b2
    have b1 : (autoR (bitR r).2).2.bad = false := by rw [h2]
    obtain ⟨h1, _⟩ := autoR_snd b1
    have b0 : (bitR r).2.bad = false := by rw [h1]
    have h0 := bitR_snd b0
    have f1 := congrArg Rd.b h1
    have f2 := congrArg Rd.b h2
    have f3 := congrArg Rd.b h3
    simp only at f1 f2 f3
    rw [f1, f2, f3, hy] at h0
    simpa only [List.append_assoc] using h0
  unfold ruleR at hb ⊢
  simp only at hb ⊢
  split at hb
  · rename_i hm
    rw [if_pos hm]
    simp only at hb ⊢
    have h1 := sqR_snd hb
    have hb1 : (autoR (autoR (autoR (bitR r).2).2).2).2.bad = false := by rw [h1]
    have h2 := key _ rfl hb1
    unfold eRule eBy
    simp only [if_true]
    have f := congrArg Rd.b h1
    simp only at f
    rw [f, hm] at h2
    simpa only [List.append_assoc] using h2
  · rename_i hm
    rw [if_neg hm]
    simp only at hb ⊢
    have h1 := (txtR_snd hb).1
    have hb1 : (autoR (autoR (autoR (bitR r).2).2).2).2.bad = false := by rw [h1]
    have h2 := key _ rfl hb1
    unfold eRule eBy
    simp only [Bool.false_eq_true, if_false]
    have f := congrArg Rd.b h1
    simp only at f
    rw [f, show (bitR r).1 = false by simpa using hm] at h2
    simpa only [List.append_assoc] using h2
theorem rulesR_snd : ∀ (k : Nat) (r : Rd), (rulesR k r).2.bad = false → r = ⟨eRules (rulesR k r).1 ++ (rulesR k r).2.b, false⟩ ∧ (rulesR k r).1.length = k
  | 0, r, hb => ⟨Rd.ext' rfl hb, rfl⟩
  | k + 1, r, hb => by
    simp only [rulesR] at hb ⊢
    split at hb
    · rename_i h; rw [h] at hb; cases hb
    · rename_i hbad
      rw [if_neg hbad]
      simp only at hb ⊢
      obtain ⟨h1, h2⟩ := rulesR_snd k _ hb
      have hb1 : (ruleR r).2.bad = false := by rw [h1]
      have h3 := ruleR_snd hb1
      refine ⟨?_, by rw [List.length_cons, h2]⟩
      have f := congrArg Rd.b h1
      simp only at f
      rw [f] at h3
      unfold eRules at h3 ⊢
      simpa only [List.flatMap_cons, List.append_assoc] using h3
theorem clsR_snd {r : Rd} (hb : (clsR r).2.bad = false) : r = ⟨eCls (clsR r).1 ++ (clsR r).2.b, false⟩ := by
  unfold clsR at hb ⊢
  simp only at hb ⊢
  obtain ⟨h1, _⟩ := autoR_snd hb
  have hb1 : (txtR r).2.bad = false := by rw [h1]
  obtain ⟨h2, _⟩ := txtR_snd hb1
  have f := congrArg Rd.b h1
  simp only at f
  rw [f] at h2
  unfold eCls
  simpa only [List.append_assoc] using h2
theorem classesR_snd : ∀ (k : Nat) (r : Rd), (classesR k r).2.bad = false → r = ⟨eClasses (classesR k r).1 ++ (classesR k r).2.b, false⟩ ∧ (classesR k r).1.length = k
  | 0, r, hb => ⟨Rd.ext' rfl hb, rfl⟩
  | k + 1, r, hb => by
    simp only [classesR] at hb ⊢
    split at hb
    · rename_i h; rw [h] at hb; cases hb
    · rename_i hbad
      rw [if_neg hbad]
      simp only at hb ⊢
      obtain ⟨h1, h2⟩ := classesR_snd k _ hb
      have hb1 : (clsR r).2.bad = false := by rw [h1]
      have h3 := clsR_snd hb1
      refine ⟨?_, by rw [List.length_cons, h2]⟩
      have f := congrArg Rd.b h1
      simp only at f
      rw [f] at h3
      unfold eClasses at h3 ⊢
      simpa only [List.flatMap_cons, List.append_assoc] using h3
theorem imgR_snd {r : Rd} (hb : (imgR r).2.bad = false) : r = ⟨eImg (imgR r).1 ++ (imgR r).2.b, false⟩ := by
  unfold imgR at hb ⊢
  simp only at hb ⊢
  obtain ⟨h1, h2⟩ := classesR_snd _ _ hb
  have hb1 : (numR (rulesR (numR r).1 (numR r).2).2).2.bad = false := by rw [h1]
  obtain ⟨h3, _⟩ := numR_snd hb1
  have hb2 : (rulesR (numR r).1 (numR r).2).2.bad = false := by rw [h3]
  obtain ⟨h4, h5⟩ := rulesR_snd _ _ hb2
  have hb3 : (numR r).2.bad = false := by rw [h4]
  obtain ⟨h6, _⟩ := numR_snd hb3
  unfold eImg
  simp only [h2, h5]
  have f1 := congrArg Rd.b h1
  have f2 := congrArg Rd.b h3
  have f3 := congrArg Rd.b h4
  simp only at f1 f2 f3
  rw [f3, f2, f1] at h6
  simpa only [List.append_assoc] using h6
/-- the first nine bytes say what the content is -/
theorem head_back {b : List B} (h9 : ¬ b.length < 9) (hh : ¬ headOk b = false) (h1 : ¬ (b.drop 9).length < tells b) (h2 : ¬ tells b < (b.drop 9).length) (hs : ¬ sumL (b.drop 9) ≠ 256 * byteAt b 7 + byteAt b 8) : b = headL (b.drop 9) ++ b.drop 9 ∧ (b.drop 9).length ≤ most := by
  have hn : (b.drop 9).length = tells b := by omega
  have hok : headOk b = true := by simpa using hh
  unfold headOk at hok
  simp only [Bool.and_eq_true, decide_eq_true_eq] at hok
  obtain ⟨⟨⟨g0, g1⟩, g2⟩, g3⟩ := hok
  have hs' : sumL (b.drop 9) = 256 * byteAt b 7 + byteAt b 8 := by simpa using hs
  refine ⟨?_, by omega⟩
  have e : ∀ i (hi : i < b.length), byteAt b i = b[i].toNat := fun i hi => by
    unfold byteAt
    rw [List.getD_eq_getElem?_getD, List.getElem?_eq_getElem hi]
    rfl
  have lt : ∀ i, byteAt b i < 256 := fun i => UInt8.toNat_lt _
  have l3 := lt 3
  have l4 := lt 4
  have l5 := lt 5
  have l6 := lt 6
  have l7 := lt 7
  have l8 := lt 8
  have hb : b = b.take 9 ++ b.drop 9 := (List.take_append_drop ..).symm
  have hd : headL (b.drop 9) = b.take 9 := by
    have ht : b.take 9 = [b[0]'(by omega), b[1]'(by omega), b[2]'(by omega), b[3]'(by omega), b[4]'(by omega), b[5]'(by omega), b[6]'(by omega), b[7]'(by omega), b[8]'(by omega)] := by
      refine List.ext_getElem (by simp; omega) fun i h3 h4 => ?_
      rw [List.getElem_take]
      simp at h4
      obtain rfl | rfl | rfl | rfl | rfl | rfl | rfl | rfl | rfl : i = 0 ∨ i = 1 ∨ i = 2 ∨ i = 3 ∨ i = 4 ∨ i = 5 ∨ i = 6 ∨ i = 7 ∨ i = 8 := by omega
      all_goals rfl
    rw [ht]
    unfold headL
    unfold tells at hn
    have k0 := e 0 (by omega)
    have k1 := e 1 (by omega)
    have k2 := e 2 (by omega)
    have k3 := e 3 (by omega)
    have k4 := e 4 (by omega)
    have k5 := e 5 (by omega)
    have k6 := e 6 (by omega)
    have k7 := e 7 (by omega)
    have k8 := e 8 (by omega)
    rw [byte_back (b[3]'(by omega)) (by omega), byte_back (b[4]'(by omega)) (by omega), byte_back (b[5]'(by omega)) (by omega), byte_back (b[6]'(by omega)) (by omega), byte_back (b[7]'(by omega)) (by omega), byte_back (b[8]'(by omega)) (by omega)]
    rw [show b[0]'(by omega) = (87 : B) from UInt8.toNat_inj.1 (by rw [show (87 : B).toNat = 87 from rfl]; omega), show b[1]'(by omega) = (72 : B) from UInt8.toNat_inj.1 (by rw [show (72 : B).toNat = 72 from rfl]; omega), show b[2]'(by omega) = (1 : B) from UInt8.toNat_inj.1 (by rw [show (1 : B).toNat = 1 from rfl]; omega)]
  rw [hd]
  exact hb
/-- the reference's Decode answers as the model's -/
theorem decodeR_eq {ok : List B → Bool} (hok : ∀ s, ok s = true → s.length ≤ 256) (b : List B) : decodeR ok b = decode ok b := by
  by_cases h1 : b.length < 9
  · unfold decodeR decode; rw [if_pos h1, if_pos h1]
  by_cases h2 : headOk b = false
  · unfold decodeR decode; rw [if_neg h1, if_neg h1, if_pos h2, if_pos h2]
  by_cases h3 : (b.drop 9).length < tells b
  · unfold decodeR decode; rw [if_neg h1, if_neg h1, if_neg h2, if_neg h2, if_pos h3, if_pos h3]
  by_cases h4 : tells b < (b.drop 9).length
  · unfold decodeR decode; rw [if_neg h1, if_neg h1, if_neg h2, if_neg h2, if_neg h3, if_neg h3, if_pos h4, if_pos h4]
  by_cases h5 : sumL (b.drop 9) ≠ 256 * byteAt b 7 + byteAt b 8
  · unfold decodeR decode; rw [if_neg h1, if_neg h1, if_neg h2, if_neg h2, if_neg h3, if_neg h3, if_neg h4, if_neg h4, if_pos h5, if_pos h5]
  obtain ⟨hh, hlen⟩ := head_back h1 h2 h3 h4 h5
  have hR : decodeR ok b = if (imgR ⟨b.drop 9, false⟩).2.bad || (!(imgR ⟨b.drop 9, false⟩).2.b.isEmpty || !imgOk ok (imgR ⟨b.drop 9, false⟩).1) then .error 4 else .ok (imgR ⟨b.drop 9, false⟩).1 := by
    unfold decodeR; rw [if_neg h1, if_neg h2, if_neg h3, if_neg h4, if_neg h5]
  have hD : (∃ v, decode ok b = .ok v) ∨ decode ok b = .error 4 := by
    unfold decode
    rw [if_neg h1, if_neg h2, if_neg h3, if_neg h4, if_neg h5]
    simp only
    split
    · exact .inr rfl
    · split
      · exact .inr rfl
      · exact .inl ⟨_, rfl⟩
  have fwd : ∀ v, decodeR ok b = .ok v → decode ok b = .ok v := fun v hv => by
    rw [hR] at hv
    split at hv
    · cases hv
    · rename_i hc
      cases hv
      simp only [Bool.or_eq_true, not_or, Bool.not_eq_true, Bool.not_eq_false', List.isEmpty_iff] at hc
      obtain ⟨c1, c2, c3⟩ := hc
      have h6 := imgR_snd c1
      rw [c2, List.append_nil] at h6
      have h7 : b.drop 9 = eImg (imgR ⟨b.drop 9, false⟩).1 := congrArg Rd.b h6
      refine decode_enc hok ?_
      unfold encode
      rw [if_pos c3, ← h7, if_neg (by omega), ← hh]
  rcases hD with ⟨v, hv⟩ | he
  · rw [hv]
    have h6 := decode_back hv
    obtain ⟨g1, g2, g3⟩ := encode_ok h6
    have h7 : b.drop 9 = eImg v := by
      have := congrArg (List.drop 9) g3
      rw [List.drop_append_of_le_length (by rw [headL_len]; omega)] at this
      exact this
    have h8 := imgR_enc hok g1 []
    rw [List.append_nil, ← h7] at h8
    rw [hR, h8]
    simp only
    rw [g1]
    rfl
  · rw [he]
    cases hr : decodeR ok b with
    | ok v => have := fwd v hr; rw [he] at this; cases this
    | error c =>
      rw [hR] at hr
      split at hr
      · cases hr; rfl
      · cases hr
end Go.Proofs.Ytdokeelodcckoaa.Im

namespace Go.Proofs.Ytdokeelodcckoaa.Im

theorem one1_few (r : Rd) : (one1 r).1 < 256 := by
  unfold one1
  split
  · exact Nat.zero_lt_succ _
  · exact UInt8.toNat_lt _
theorem numR_few (r : Rd) : (numR r).1 < 65536 := by
  have l1 := one1_few r
  have l2 := one1_few (one1 r).2
  unfold numR
  simp only
  omega
theorem txtR_few (r : Rd) : (txtR r).1.length < 65536 := by
  have h := numR_few r
  unfold txtR
  split
  · exact Nat.zero_lt_succ _
  · rw [List.length_take]; omega
theorem arcsR_few : ∀ (m : Nat) (last : Int) (x : List Int × List (List B)) (r : Rd), (∀ o ∈ x.2, o.length < 65536) → ∀ o ∈ (arcsR m last x r).1.2, o.length < 65536
  | 0, _, _, _, h => h
  | m + 1, last, x, r, h => by
    simp only [arcsR]
    split
    · exact h
    · refine arcsR_few m _ _ _ (fun o ho => ?_)
      rcases List.mem_or_eq_of_mem_set ho with h' | h'
      · exact h o h'
      · rw [h']; exact txtR_few _
theorem rowR_few (r : Rd) : ∀ o ∈ (rowR r).1.2, o.length < 65536 := by
  unfold rowR
  refine arcsR_few _ _ _ _ (fun o ho => ?_)
  unfold blank at ho
  rw [List.eq_of_mem_replicate ho]
  exact Nat.zero_lt_succ _
theorem sstateR_few (r : Rd) : (∀ o ∈ (sstateR r).1.outs, o.length < 65536) ∧ (sstateR r).1.tail.length < 65536 := by
  unfold sstateR
  refine ⟨rowR_few _, ?_⟩
  simp only
  unfold tailR
  split
  · exact txtR_few _
  · exact Nat.zero_lt_succ _
theorem sstatesR_few : ∀ (k : Nat) (r : Rd), (sstatesR k r).1.length ≤ k ∧ ∀ x ∈ (sstatesR k r).1, (∀ o ∈ x.outs, o.length < 65536) ∧ x.tail.length < 65536
  | 0, _ => ⟨Nat.le_refl _, fun x h => by cases h⟩
  | k + 1, r => by
    simp only [sstatesR]
    split
    · exact ⟨Nat.zero_le _, fun x h => by cases h⟩
    · have ih := sstatesR_few k (sstateR r).2
      refine ⟨Nat.succ_le_succ ih.1, fun x hx => ?_⟩
      rcases List.mem_cons.1 hx with h | h
      · rw [h]; exact sstateR_few r
      · exact ih.2 x h
theorem sqR_few (r : Rd) : SqLens (sqR r).1 ∧ SqSum (sqR r).1 := by
  have h := sstatesR_few (numR (txtR r).2).1 ⟨(numR (txtR r).2).2.b, (numR (txtR r).2).2.bad || decide (1024 < (numR (txtR r).2).1)⟩
  have hn := numR_few (txtR r).2
  have ht := txtR_few r
  refine ⟨⟨?_, ?_, ?_⟩, ?_⟩
  · unfold sqR; simp only; omega
  · intro t ht'
    unfold sqR at ht'
    simp only [List.mem_map] at ht'
    obtain ⟨x, hx, rfl⟩ := ht'
    have := (h.2 x hx).2
    omega
  · intro l hl o ho
    unfold sqR at hl
    simp only [List.mem_map] at hl
    obtain ⟨x, hx, rfl⟩ := hl
    have := (h.2 x hx).1 o ho
    omega
  · unfold SqSum sqR
    simp only [List.length_map]
    omega
theorem zero_few : SqLens Sq.zero ∧ SqSum Sq.zero := by
  exact ⟨⟨Nat.zero_le _, (fun t h => by cases h), (fun t h => by cases h)⟩, Nat.zero_le _⟩
theorem ruleR_few (r : Rd) : RuleLens (ruleR r).1 ∧ SqSum (ruleR r).1.by_ := by
  unfold ruleR
  simp only
  split
  · exact ⟨⟨(sqR_few _).1, Nat.zero_le _⟩, (sqR_few _).2⟩
  · refine ⟨⟨zero_few.1, ?_⟩, zero_few.2⟩
    have := txtR_few (autoR (autoR (autoR (bitR r).2).2).2).2
    simp only
    omega
theorem rulesR_few : ∀ (k : Nat) (r : Rd), ∀ x ∈ (rulesR k r).1, RuleLens x ∧ SqSum x.by_
  | 0, _ => fun x h => by cases h
  | k + 1, r => by
    simp only [rulesR]
    split
    · exact fun x h => by cases h
    · intro x hx
      rcases List.mem_cons.1 hx with h | h
      · rw [h]; exact ruleR_few r
      · exact rulesR_few k _ x h
theorem classesR_few : ∀ (k : Nat) (r : Rd), ∀ x ∈ (classesR k r).1, x.name.length < 65536
  | 0, _ => fun x h => by cases h
  | k + 1, r => by
    simp only [classesR]
    split
    · exact fun x h => by cases h
    · intro x hx
      rcases List.mem_cons.1 hx with h | h
      · rw [h]; exact txtR_few r
      · exact classesR_few k _ x h
theorem imgR_few (r : Rd) : ImgLens (imgR r).1 ∧ ImgSum (imgR r).1 := by
  refine ⟨⟨fun x hx => (rulesR_few _ _ x hx).1, fun c hc => ?_⟩, fun x hx => (rulesR_few _ _ x hx).2⟩
  have := classesR_few _ _ c hc
  omega
end Go.Proofs.Ytdokeelodcckoaa.Im
