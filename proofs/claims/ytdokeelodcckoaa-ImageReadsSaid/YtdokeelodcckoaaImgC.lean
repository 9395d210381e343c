/-
  The contract of part.Sets: of a row of classes the parts of the bytes, or an error.
-/
import Derived.Test.YtdokeelodcckoaaImgD
import Derived.Test.YtdokeelodcckoaaSetA
import Derived.Deep.DeepCutAuto
import Derived.Deep.RegionWith
namespace Go.Proofs.Ytdokeelodcckoaa.Im
open Go.RowKit Go.Lib

set_option maxRecDepth 100000 in
set_option maxHeartbeats 1000000 in
theorem of_one (c : B) (w : World) (g : Nat) (hg : w.heap[g]? = some (.cells #[.int .u8 c.toNat] 5 (0, 0))) :
    Calls Try.prog 77 #[.slice (some ⟨g, 0, none⟩) 1 1] w fun e w' => e = .returned (orBit Se.none c.toNat).v ∧ Below w.heap.size w w' := by
  have hl := (Array.getElem?_eq_some_iff.1 hg).1
  have c0 : w.cell? ⟨g, 0, none⟩ = some (.int .u8 c.toNat) := cell_of_row _ _ 0 _ _ _ hg
  have hc := c.toNat_lt
  clear hg
  have hcase : c.toNat / 64 = 0 ∨ c.toNat / 64 = 1 ∨ c.toNat / 64 = 2 ∨ c.toNat / 64 = 3 := by omega
  rcases hcase with hq | hq | hq | hq
  all_goals
    have hq' : (c.toNat : Int) / 64 = _ := (by omega : _ = ((c.toNat / 64 : Nat) : Int)).trans (congrArg _ hq)
    have HQ := hid hq
    clear hq
    simp only [Int.cast_ofNat_Int] at hq'
    go_enter Try.func77, Try.ntmps77
    go_wp2
    refine wp_loop_rounds 2 ?_
    rw [rounds_succ]
    go_wp2
    rw [rounds_succ]
    go_wp2
    exact bodyPost_ret (v := (orBit Se.none c.toNat).v) (by simp [results, Try.results77, go_sem, orBit, HQ.out, Se.none]) rfl ⟨rfl, (((Below.refl _ w).alloc (Nat.le_refl _) _).alloc (by simp) _)⟩
theorem of_n {n : Int} (k : Nat) (hn : n = k) (hk : k < 256) (w : World) (g : Nat) (hg : w.heap[g]? = some (.cells #[.int .u8 n] 5 (0, 0))) :
    Calls Try.prog 77 #[.slice (some ⟨g, 0, none⟩) 1 1] w fun e w' => e = .returned (orBit Se.none k).v ∧ Below w.heap.size w w' := by
  subst hn
  have e : (UInt8.ofNat k).toNat = k := by simp; omega
  have := of_one (UInt8.ofNat k) w g (by rw [e]; exact hg)
  rw [e] at this
  exact this
theorem own_later {w w1 : World} {base e size n : Nat} {v : Value} {xs : List Value} (h : w.ownsRow base e size v n xs) (hb : Below w.heap.size w w1) : w1.ownsRow base e size v n xs :=
  ownsRow_same h fun k _ hk _ => hb.block k (lt_of_heap hk)
theorem heap_new_drew (w : World) (o : Obj) : ((w.alloc o).drew).heap[w.heap.size]? = some o := heap_alloc_new w o
theorem own_drew {w : World} {base e size n : Nat} {v : Value} {xs : List Value} (h : w.ownsRow base e size v n xs) : w.drew.ownsRow base e size v n xs := h
theorem own_after {w w1 : World} {o : Obj} {base e size n : Nat} {v : Value} {xs : List Value} (h : w.ownsRow base e size v n xs) (hb : Below (w.alloc o).heap.size (w.alloc o) w1) : w1.ownsRow base e size v n xs :=
  own_later (h.alloc o) hb

/-! the parts of a row of classes -/
def flat (ss : List Se) : List Value := ss.flatMap fun s => s.cs.toList
theorem flat_cons (s : Se) (ss : List Se) : flat (s :: ss) = .int .u64 s.a :: .int .u64 s.b :: .int .u64 s.c :: .int .u64 s.d :: flat ss := rfl
theorem flat_snoc (ss : List Se) (s : Se) : flat (ss ++ [s]) = flat ss ++ s.cs.toList := by unfold flat; rw [List.flatMap_append]; simp
theorem flat_len : ∀ (ss : List Se), (flat ss).length = ss.length * 4
  | [] => rfl
  | s :: ss => by rw [flat_cons]; simp [flat_len ss]; omega
theorem flat_get (i : Nat) (hi : i < 4) : ∀ (ss : List Se) (j : Nat) (h : j < ss.length), (flat ss)[j * 4 + i]? = ss[j].cs[i]?
  | [], _, h => by simp at h
  | s :: ss, 0, _ => by
    rw [flat_cons, Nat.zero_mul, Nat.zero_add]
    obtain rfl | rfl | rfl | rfl : i = 0 ∨ i = 1 ∨ i = 2 ∨ i = 3 := by omega
    all_goals rfl
  | s :: ss, j + 1, h => by
    rw [flat_cons, show (j + 1) * 4 + i = (j * 4 + i) + 1 + 1 + 1 + 1 by omega]
    simp only [List.getElem?_cons_succ, List.getElem_cons_succ]
    exact flat_get i hi ss j (by simpa using h)
theorem flat_set (u : Se) : ∀ (ss : List Se) (j : Nat) (_ : j < ss.length), ((((flat ss).set (j * 4) (.int .u64 u.a)).set (j * 4 + 1) (.int .u64 u.b)).set (j * 4 + 2) (.int .u64 u.c)).set (j * 4 + 3) (.int .u64 u.d) = flat (ss.set j u)
  | [], _, h => by simp at h
  | s :: ss, 0, _ => by simp only [Nat.zero_mul, Nat.zero_add]; rfl
  | s :: ss, j + 1, h => by
    have ih := flat_set u ss j (by simpa using h)
    rw [List.set_cons_succ, flat_cons, flat_cons, ← ih]
    rw [show (j + 1) * 4 = j * 4 + 1 + 1 + 1 + 1 by omega]
    simp only [List.set_cons_succ, show ∀ n : Nat, n + 1 + 1 + 1 + 1 + 1 = (n + 1) + 1 + 1 + 1 + 1 from fun _ => rfl, show ∀ n : Nat, n + 1 + 1 + 1 + 1 + 2 = (n + 2) + 1 + 1 + 1 + 1 from fun _ => rfl, show ∀ n : Nat, n + 1 + 1 + 1 + 1 + 3 = (n + 3) + 1 + 1 + 1 + 1 from fun _ => rfl]
def grow (c : Nat) (ss : List Se) : List Se := if c = ss.length then ss ++ [Se.none] else ss
def putIn (b c : Nat) (ss : List Se) : List Se := (grow c ss).set c (anyS ((grow c ss).getD c Se.none) (orBit Se.none b))
def setsM : Nat → List Int → List Se → Option (List Se)
  | _, [], ss => some ss
  | b, c :: l, ss => if c < 0 ∨ (ss.length : Int) < c then none else setsM (b + 1) l (putIn b c.toNat ss)
def setsOf (l : List Int) : Option (List Se) := if l.length = 256 then setsM 0 l [] else none
theorem grow_len (c : Nat) (ss : List Se) : (grow c ss).length = if c = ss.length then ss.length + 1 else ss.length := by
  unfold grow; split <;> simp
theorem setsM_parts : ∀ (l : List Int) (b : Nat) (ss : List Se), (setsM b l ss).map List.length = parts ss.length l
  | [], _, _ => rfl
  | c :: l, b, ss => by
    unfold setsM parts
    split
    · rfl
    · rename_i hc
      rw [setsM_parts l]
      unfold putIn
      rw [List.length_set, grow_len]
      split
      · rename_i h; rw [if_pos (by omega)]
      · rename_i h; rw [if_neg (by omega)]
theorem setsOf_parts (l : List Int) : (setsOf l).map List.length = partsOf l := by
  unfold setsOf partsOf
  split
  · exact setsM_parts l 0 []
  · rfl
theorem drop_cons' {α : Type} (l : List α) (k : Nat) (h : k < l.length) : l.drop k = l[k] :: l.drop (k + 1) := List.drop_eq_getElem_cons h
theorem infoSet : (Try.prog.info? 93).map (fun i => (i.zero, i.size, i.bytes)) = some (some (.agg #[.int .u64 0, .int .u64 0, .int .u64 0, .int .u64 0]), 4, 32) := by kernel_rfl
/-- a part that is read or written in a row of parts -/
theorem part_at {w : World} {base n cap : Nat} {ad : Option Addr} {ss : List Se} (h : w.ownsRow base 93 4 (.slice ad n cap) n (flat ss)) (hn : n = ss.length) {j : Nat} (hj : j < ss.length) :
    ∃ g, ad = some ⟨g, 0, none⟩ ∧ base ≤ g ∧ g < w.heap.size ∧ (w.cell? ⟨g, j * 4, none⟩ = some (.int .u64 ss[j].a) ∧ w.cell? ⟨g, j * 4 + 1, none⟩ = some (.int .u64 ss[j].b) ∧ w.cell? ⟨g, j * 4 + 2, none⟩ = some (.int .u64 ss[j].c) ∧ w.cell? ⟨g, j * 4 + 3, none⟩ = some (.int .u64 ss[j].d)) ∧
      (∀ i, w.frozen? ⟨g, i, none⟩ = false) := by
  subst hn
  rcases h.2 with ⟨e, h0⟩ | ⟨g, cp, cur, e, hb, hg, _⟩
  · omega
  · cases e
    refine ⟨g, rfl, hb, lt_of_heap hg, ⟨?_, ?_, ?_, ?_⟩, fun i => h.frozenAt i⟩
    · rw [h.cellAt _ (by omega)]; exact flat_get 0 (by omega) ss j hj
    · rw [h.cellAt _ (by omega)]; exact flat_get 1 (by omega) ss j hj
    · rw [h.cellAt _ (by omega)]; exact flat_get 2 (by omega) ss j hj
    · rw [h.cellAt _ (by omega)]; exact flat_get 3 (by omega) ss j hj
theorem part_now {w : World} {base g n cap : Nat} {ss : List Se} (h : w.ownsRow base 93 4 (.slice (some ⟨g, 0, none⟩) n cap) n (flat ss)) (hn : n = ss.length) {j : Nat} (hj : j < ss.length) :
    w.cell? ⟨g, j * 4, none⟩ = some (.int .u64 ss[j].a) ∧ w.cell? ⟨g, j * 4 + 1, none⟩ = some (.int .u64 ss[j].b) ∧ w.cell? ⟨g, j * 4 + 2, none⟩ = some (.int .u64 ss[j].c) ∧ w.cell? ⟨g, j * 4 + 3, none⟩ = some (.int .u64 ss[j].d) ∧
      w.frozen? ⟨g, j * 4, none⟩ = false ∧ w.frozen? ⟨g, j * 4 + 1, none⟩ = false ∧ w.frozen? ⟨g, j * 4 + 2, none⟩ = false ∧ w.frozen? ⟨g, j * 4 + 3, none⟩ = false := by
  obtain ⟨g', e, _, _, ⟨c0, c1, c2, c3⟩, hf⟩ := part_at h hn hj
  cases e
  exact ⟨c0, c1, c2, c3, hf _, hf _, hf _, hf _⟩
theorem sets_store {w : World} {base g cap : Nat} {ss : List Se} (h : w.ownsRow base 93 4 (.slice (some ⟨g, 0, none⟩) ss.length cap) ss.length (flat ss)) {j : Nat} (hj : j < ss.length) (u : Se) :
    ((((w.setCell ⟨g, j * 4, none⟩ (.int .u64 u.a)).setCell ⟨g, j * 4 + 1, none⟩ (.int .u64 u.b)).setCell ⟨g, j * 4 + 2, none⟩ (.int .u64 u.c)).setCell ⟨g, j * 4 + 3, none⟩ (.int .u64 u.d)).ownsRow base 93 4 (.slice (some ⟨g, 0, none⟩) ss.length cap) ss.length (flat (ss.set j u)) := by
  rw [← flat_set u ss j hj]
  exact ((((h.stored _ _).1.stored _ _).1.stored _ _).1.stored _ _).1

/-- what part.Sets hands back -/
def SetsPost (w : World) (x : Option (List Se)) (e : Ending) (w' : World) : Prop :=
  Below w.heap.size w w' ∧ (match x with
      | none => e = .returned (.tuple #[.slice none 0 0, .int .i64 1])
      | some ss => ∃ ad cap, e = .returned (.tuple #[.slice ad ss.length cap, .int .i64 0]) ∧ w'.ownsRow w.heap.size 93 4 (.slice ad ss.length cap) ss.length (flat ss))

set_option maxRecDepth 100000 in
set_option maxHeartbeats 2000000 in
theorem sets_any {F : Nat → Prop} {w : World} {v : Value} {l : List Int} (hl : IntsIn F w v l) (hF : ∀ g, F g → g < w.heap.size) :
    Calls Try.prog 64 #[v] w (SetsPost w (setsOf l)) := by
  obtain ⟨ad, cp, rfl, hm, hr⟩ := hl
  unfold maxLen at hm
  have HR := hid hr
  clear hr
  by_cases h256 : l.length = 256
  · have HS := hid (show setsM 0 l [] = setsOf l by unfold setsOf; rw [if_pos h256])
    have H256 := hid h256
    have hl' : (l.length : Int) = 256 := by omega
    obtain ⟨i0, hi, hz0, hz1, hz2⟩ := info_parts infoSet
    have HI := hid hi
    have HZ := hid (And.intro hz0 (And.intro hz1 hz2))
    clear hi hz0 hz1 hz2 h256
    have HL' := hid hl'
    have hb256 : ((l.length : Int) != 256) = false := by simp [hl']
    clear hl'
    go_enter Try.func64, Try.ntmps64
    go_wp2
    go_loopw [4, 12] (fun p i wr => ∃ (k : Nat) (ss : List Se), k ≤ l.length ∧ ss.length ≤ k ∧ i = .int .i64 k ∧ wr.ownsRow w.heap.size 93 4 p ss.length (flat ss) ∧ Hid (setsM k (l.drop k) ss = setsOf l) ∧ Below w.heap.size w wr) (fun _ i _ => l.length - (intOf i).toNat)
    case atStart => exact ⟨0, [], Nat.zero_le _, Nat.zero_le _, rfl, World.ownsRow_nil _ _ _ _, HS, Below.refl _ _⟩
    case round =>
      obtain ⟨k, ss, hk, hsk, rfl, hown, hsm, hbel⟩ := hrel
      obtain ⟨adp, cpp, rfl⟩ := own_shape hown
      have HO := hid hown
      have hk256 : k ≤ 256 := by have := H256.out; omega
      by_cases hlt : k < l.length
      · obtain ⟨g, off, rfl, hFg, x, hx, rfl⟩ := (HR.out.frame (w' := wr) (F' := F) (fun _ h => h) (fun q hq _ => hbel.block q (hF q hq)) (R' := IntR) (fun _ _ _ h => h)).at' hlt
        have hsm1 := hsm.out
        rw [drop_cons' l k hlt] at hsm1
        unfold setsM at hsm1
        by_cases hneg : l[k] < 0
        · rw [if_pos (.inl hneg)] at hsm1
          have HN := hid hsm1.symm
          clear hsm1 hown
          go_wp2
          go_ret2
          rw [HN.out]
          exact ⟨hbel, rfl⟩
        · by_cases hgt : (ss.length : Int) < l[k]
          · rw [if_pos (.inr hgt)] at hsm1
            have HN := hid hsm1.symm
            clear hsm1 hown
            go_wp2
            go_ret2
            rw [HN.out]
            exact ⟨hbel, rfl⟩
          · rw [if_neg (by omega)] at hsm1
            obtain ⟨c, hc⟩ := Int.eq_ofNat_of_zero_le (a := l[k]) (by omega)
            rw [hc] at hx hsm1 hneg hgt
            rw [Int.toNat_natCast] at hsm1
            have HSM := hid hsm1
            have hc1 : c ≤ ss.length := by omega
            clear hsm1 hown hsm hneg hgt hc
            have hk255 : k < 256 := by have := H256.out; omega
            have hkB := hid (show (k : Int) = ((UInt8.ofNat k).toNat : Int) by simp; omega)
            go_upto_if 28 with fail
            go_cut [4] (fun p wx => wx.ownsRow w.heap.size 93 4 p (grow c ss).length (flat (grow c ss)) ∧ Below w.heap.size w wx)
            case first =>
              by_cases hcs : c = ss.length
              · have hcs' : (ss.length : Int) ≤ (c : Int) := by omega
                have hgr := hid (show grow c ss = ss ++ [Se.none] by unfold grow; rw [if_pos hcs])
                have HCS := hid hcs
                clear hcs
                go_wp2_with (at_builtin; refine wpList_append_own _ rfl _ _ 109 rfl w.heap.size 93 i0 _ 4 32 Try.underlying109 HI.out HZ.out.1 HZ.out.2.1 HZ.out.2.2 rfl (by decide) _ _ _ rfl (HO.out.alloc _) ⟨wr.heap.size, 0, none⟩ 1 1 Se.none.cs.toList rfl rfl ?c1 ?c2 ?c3 ?c4 ?c5 ?_)
                case c1 => intro j u hu; simpa [Se.none] using hu
                case c2 => simp [Value.oneCell']
                case c3 => unfold maxLen; omega
                case c4 => omega
                case c5 => have := hbel.size; simp; omega
                intro p' w1 hown' hgrow _
                go_wp2
                go_meet
                rw [hgr.out, List.length_append, flat_snoc]
                refine ⟨hown', (hbel.alloc hbel.size _).grown hgrow (by have := hbel.size; simp; omega) (fun q hq => (HO.out.lt q hq).1)⟩
              · have hgr := hid (show grow c ss = ss by unfold grow; rw [if_neg hcs])
                have hcs' : (c : Int) < (ss.length : Int) := by omega
                clear hcs
                go_wp2
                go_meet
                rw [hgr.out]
                exact ⟨HO.out, hbel⟩
            case rest =>
              obtain ⟨hown1, hbel1⟩ := hcut
              obtain ⟨ad1, cp1, rfl⟩ := own_shape hown1
              have hgl : c < (grow c ss).length := by rw [grow_len]; split <;> omega
              obtain ⟨g1, rfl, hbg, hg1, ⟨c0, c1, c2, c3⟩, hfz⟩ := part_at hown1 rfl hgl
              have f0 := hfz (c * 4)
              have f1 := hfz (c * 4 + 1)
              have f2 := hfz (c * 4 + 2)
              have f3 := hfz (c * 4 + 3)
              have HO1 := hid hown1
              have hci : (c : Int) < ((grow c ss).length : Int) := by omega
              have hbs := hbel1.size
              have hD := hid (show (grow c ss)[c] = (grow c ss).getD c Se.none by rw [List.getD_eq_getElem?_getD, List.getElem?_eq_getElem hgl]; rfl)
              have hpl := hid (grow_len c ss)
              have hput := hid (show putIn k c ss = (grow c ss).set c (anyS (grow c ss)[c] (orBit Se.none k)) by rw [hD.out]; rfl)
              generalize (grow c ss) = s1 at *
              clear hown1 hfz
              go_upto_region 11 with fail
              have hkw : IntKind.u8.wrap (k : Int) = (k : Int) := IntWalk.u8_in _ (by omega)
              go_region_with ((first | (go_at_call 77; go_loud (refine (of_n k rfl hk255 _ _ (heap_new_drew wc _)).mono ?_; rintro e w1 ⟨rfl, hb1⟩; have HO2 := hid (own_later (own_drew (HO1.out.alloc _)) hb1); obtain ⟨d0, d1, d2, d3, e0, e1, e2, e3⟩ := part_now HO2.out rfl hgl)) | (go_at_call 76; refine (any_any s1[c] (orBit Se.none k) _).mono ?_; rintro e w2 ⟨rfl, hb2⟩; have HO3 := hid (own_later HO2.out hb2); obtain ⟨k0, k1, k2, k3, l0, l1, l2, l3⟩ := part_now HO3.out rfl hgl)))
              all_goals go_wp2
              all_goals
                have hB2 : Below w.heap.size w w2 := ((hbel1.alloc hbs _).drew.trans (hb1.mono (by simp; omega))).trans (hb2.mono (by have := hb1.size; simp at this; omega))
                go_roundw
                case rel => exact ⟨k + 1, s1.set c (anyS s1[c] (orBit Se.none k)), by omega, by rw [List.length_set]; have := hpl.out; split at this <;> omega, by go_num, by rw [List.length_set]; exact sets_store HO3.out hgl _, hid (by rw [← hput.out]; exact HSM.out), (((hB2.setCell hbg _).setCell hbg _).setCell hbg _).setCell hbg _⟩
                case measure => simp [intOf]; omega
      · obtain rfl : k = l.length := by omega
        have hsm1 := hsm.out
        rw [List.drop_length] at hsm1
        have HN := hid (show setsOf l = some ss from hsm1.symm)
        clear hsm1 hown
        go_wp2
        go_ret2
        rw [HN.out]
        exact ⟨hbel, adp, cpp, rfl, HO.out⟩
  · have hs : setsOf l = none := by unfold setsOf; rw [if_neg h256]
    rw [hs]
    have hb256 : ((l.length : Int) != 256) = true := by simp; omega
    go_enter Try.func64, Try.ntmps64
    go_wp2
    go_ret2
    exact ⟨Below.refl _ _, rfl⟩
end Go.Proofs.Ytdokeelodcckoaa.Im
