/-
  The references of layers 2, 10 and 11, second part: Sets, Parts, Right, Class, Ints, unlike, states, Same.
-/
import Derived.Test.YtfjomnhdmkbkiaaDoorDhP
import Derived.Test.YtfjomnhdmkbkiaaDoorDgQ
import Derived.Test.YtfjomnhdmkbkiaaDoorDgR
import Derived.IntWalk
import Derived.Deep.QuietTactic
import Derived.BigQuiet
namespace Go.Proofs.YtfjomnhdmkbkiaaDoor.Im
open Go.RowKit Go.Lib

/-- the sets of a row of numbers -/
def SetsSo (l : List Int) (ss : List Se) : Prop := ∀ i (h : i < ss.length), ss[i].ok ∧ ∀ b, b < 256 → hasS ss[i] b = decide (l.getD b 0 = (i : Int))
theorem SetsSo.nil (l : List Int) : SetsSo l [] := fun i h => by simp at h
theorem SetsSo.snoc {l : List Int} {ss : List Se} {u : Se} (h : SetsSo l ss) (hu : u.ok ∧ ∀ b, b < 256 → hasS u b = decide (l.getD b 0 = ((ss.length : Nat) : Int))) : SetsSo l (ss ++ [u]) := fun i hi => by
  by_cases hl : i < ss.length
  · rw [List.getElem_append_left hl]; exact h i hl
  · simp at hi
    obtain rfl : i = ss.length := by omega
    simpa using hu
def SetsFull (l : List Int) (w : World) (e : Ending) (w' : World) : Prop :=
  Below w.heap.size w w' ∧ (match partsOf l with
    | none => e = .returned (.tuple #[.slice none 0 0, .int .i64 1])
    | some m => ∃ ad cap ss, e = .returned (.tuple #[.slice ad m cap, .int .i64 0]) ∧ m ≤ 256 ∧ ss.length = m ∧ w'.ownsRow w.heap.size 65 4 (.slice ad m cap) m (flat ss) ∧ SetsSo l ss)
/-- which bytes are of the number k, so far -/
def isTo (l : List Int) (k j : Nat) : List Bool := (l.take j).map (fun x => x == (k : Int)) ++ List.replicate (256 - j) false
theorem isTo_zero (l : List Int) (k : Nat) : isTo l k 0 = List.replicate 256 false := by unfold isTo; rw [List.take_zero, List.map_nil, List.nil_append, Nat.sub_zero]
theorem isTo_step {l : List Int} {k j : Nat} (hj : j < l.length) (h : j < 256) : (isTo l k j).set j (l[j] == (k : Int)) = isTo l k (j + 1) := by
  unfold isTo
  have e1 : ((l.take j).map (fun x => x == (k : Int))).length = j := by simp; omega
  rw [List.set_append_right _ _ (by omega), e1, Nat.sub_self, show 256 - j = (256 - (j + 1)) + 1 by omega, List.replicate_succ, List.set_cons_zero, take_succ' _ _ hj, List.map_append, List.append_assoc]
  rfl
theorem isTo_made {l : List Int} {k : Nat} {u : Se} (h : MakeAt (isTo l k 256) 256 u) (hl : l.length = 256) : u.ok ∧ ∀ b, b < 256 → hasS u b = decide (l.getD b 0 = (k : Int)) := by
  refine ⟨h.ok, fun b hb => ?_⟩
  rw [h.has b hb, decide_eq_true hb, Bool.true_and]
  unfold isTo
  rw [List.take_of_length_le (by omega), Nat.sub_self, List.replicate_zero, List.append_nil, List.getD_eq_getElem?_getD, List.getD_eq_getElem?_getD, List.getElem?_map, List.getElem?_eq_getElem (by omega)]
  simp [Bool.beq_eq_decide_eq]
set_option maxRecDepth 100000 in
set_option maxHeartbeats 4000000 in
theorem setsR_full {F : Nat → Prop} {w : World} {v : Value} {l : List Int} (hl : IntsIn F w v l) (hF : ∀ g, F g → g < w.heap.size) :
    Calls Tryd.prog 69 #[v] w (SetsFull l w) := by
  obtain ⟨ad, cp, rfl, hm, hr⟩ := hl
  unfold maxLen at hm
  have HR := hid hr
  have HFF := hid hF
  clear hr hF
  by_cases h256 : l.length = 256
  · have hb256 : ((l.length : Int) != 256) = false := by simp [h256]
    have HP := hid (show parts 0 (l.drop 0) = partsOf l by unfold partsOf; rw [if_pos h256]; rfl)
    have hl1 : l.length ≤ 256 := by omega
    have hl2 : 256 ≤ l.length := by omega
    clear h256
    obtain ⟨i0, hi, hz0, hz1, hz2⟩ := info_parts infoSet
    have HI := hid hi
    have HZ := hid (And.intro hz0 (And.intro hz1 hz2))
    clear hi hz0 hz1 hz2
    obtain ⟨j0, hj, hy0, hy1, hy2⟩ := info_parts infoBoolR
    have HJ := hid hj
    have HY := hid (And.intro hy0 (And.intro hy1 hy2))
    clear hj hy0 hy1 hy2
    go_enter Tryd.func69, Tryd.ntmps69
    go_wp2
    clear hb256
    go_loop [4, 5] (fun mv i => ∃ (k n : Nat) (mi : Int), k ≤ 256 ∧ n ≤ k ∧ mv = .int .i64 mi ∧ i = .int .i64 k ∧ -1 ≤ mi ∧ mi ≤ 255 ∧ Hid (mi = (n : Int) - 1) ∧ Hid (parts n (l.drop k) = partsOf l)) (fun _ i => 256 - (intOf i).toNat)
    case atStart => exact ⟨0, 0, -1, by omega, by omega, rfl, rfl, by omega, by omega, hid (by omega), HP⟩
    case round =>
      obtain ⟨k, n, mi, hk, hn, rfl, rfl, hm1, hm2, HM, HQ⟩ := hrel
      by_cases hlt : k < 256
      · have hlt' : k < l.length := by omega
        obtain ⟨g, off, rfl, _, x, hx, rfl⟩ := HR.out.at' hlt'
        have hp := HQ.out
        rw [drop_cons' l k hlt'] at hp
        unfold parts at hp
        by_cases hneg : l[k] < 0
        · rw [if_pos (.inl hneg)] at hp
          have HN := hid hp.symm
          clear hp
          go_wp2
          go_ret2
          unfold SetsFull
          rw [HN.out]
          exact ⟨Below.refl _ _, rfl⟩
        · by_cases hgt : mi + 1 < l[k]
          · rw [if_pos (.inr (by have := HM.out; omega))] at hp
            have HN := hid hp.symm
            clear hp
            go_wp2
            go_ret2
            unfold SetsFull
            rw [HN.out]
            exact ⟨Below.refl _ _, rfl⟩
          · rw [if_neg (by have := HM.out; omega)] at hp
            have HPP := hid hp
            clear hp
            go_wp2
            go_round
            case rel =>
              by_cases hc : l[k] = (n : Int)
              · have h := HPP.out
                rw [if_pos hc] at h
                exact ⟨k + 1, n + 1, _, by omega, by omega, rfl, by go_num, by have := HM.out; first | omega | (split <;> omega), by have := HM.out; first | omega | (split <;> omega), hid (by have := HM.out; first | omega | (split <;> omega)), hid h⟩
              · have h := HPP.out
                rw [if_neg hc] at h
                exact ⟨k + 1, n, _, by omega, by omega, rfl, by go_num, by have := HM.out; first | omega | (split <;> omega), by have := HM.out; first | omega | (split <;> omega), hid (by have := HM.out; first | omega | (split <;> omega)), hid h⟩
            case measure => simp [intOf]; omega
      · obtain rfl : k = 256 := by omega
        have HN := hid (show partsOf l = some n by have h := HQ.out; rw [List.drop_eq_nil_of_le (by omega)] at h; exact h.symm)
        clear HQ
        go_wp2
        go_loopw [6, 7] (fun p i wr => ∃ (k : Nat) (ss : List Se), ss.length = k ∧ Hid (SetsSo l ss) ∧ (k : Int) ≤ mi + 1 ∧ i = .int .i64 k ∧ wr.ownsRow w.heap.size 65 4 p k (flat ss) ∧ Below w.heap.size w wr) (fun _ i _ => (mi + 1 - intOf i).toNat)
        case atStart => exact ⟨0, [], rfl, hid (SetsSo.nil l), by omega, rfl, World.ownsRow_nil _ _ _ _, Below.refl _ _⟩
        case round =>
          obtain ⟨k, ss, hsk, hso, hkm, rfl, hown, hbel⟩ := hrel
          obtain ⟨adp, cpp, rfl⟩ := own_shape hown
          have HSK := hid hsk
          have HO := hid hown
          have hsz := hbel.size
          clear hsk hown
          by_cases hle : (k : Int) ≤ mi
          · go_upto_region 15 with (refine wpList_make_full _ rfl _ _ 28 rfl wr.heap.size 4 j0 (.bool false) 1 Tryd.underlying28 HJ.out HY.out.1 HY.out.2.1 .i64 .i64 256 256 256 rfl rfl rfl rfl (by rw [HY.out.2.2]; decide) (by unfold maxLen; omega) (Nat.le_refl _) ?_; intro w2 hown2 hgrow2; have HO2 := hid hown2; have HG2 := hid hgrow2; clear hown2 hgrow2)
            have hb2 : Below wr.heap.size wr w2 := (Below.refl _ wr).grown HG2.out (Nat.le_refl _) (fun q hq => by cases hq)
            have hR2 : BRow w2 wr.heap.size wr.heap.size 256 (List.replicate 256 false) := brow_made HO2.out
            have HB2 := hid hb2
            have HR2 := hid hR2
            clear HO2 HG2 hb2 hR2
            obtain ⟨wo, rfl⟩ : ∃ wo : World, wo = wr := ⟨_, rfl⟩
            go_wp2
            go_loopw [9] (fun i wx => ∃ (j : Nat) (lb : List Bool), j ≤ 256 ∧ i = .int .i64 j ∧ Hid (lb.length = 256) ∧ Hid (lb = isTo l k j) ∧ BRow wx wo.heap.size wo.heap.size 256 lb ∧ Below wo.heap.size wo wx) (fun i _ => 256 - (intOf i).toNat)
            case atStart => exact ⟨0, _, by omega, rfl, hid (by simp), hid (isTo_zero l k).symm, HR2.out, HB2.out⟩
            case round =>
              obtain ⟨j, lb, hj, rfl, HLB, HLE, hbr, hbx⟩ := hrel
              have HBR := hid hbr
              have hbx0 := hbel.trans (hbx.mono hsz)
              clear hbr
              by_cases hjlt : j < 256
              · have hjl : j < l.length := by omega
                obtain ⟨g, off, rfl, _, x, hx, rfl⟩ := (HR.out.frame (w' := wr) (F' := F) (fun _ h => h) (fun q hq _ => hbx0.block q (HFF.out q hq)) (R' := IntR) (fun _ _ _ h => h)).at' hjl
                have hcl := HBR.out.cell (i := j) (by have := HLB.out; omega) HLB.out
                have hfr := own_free (i := j) HBR.out
                go_wp2
                go_roundw
                case rel => exact ⟨j + 1, lb.set j _, by omega, by go_num, hid (by rw [List.length_set]; exact HLB.out), hid (by rw [HLE.out]; exact isTo_step hjl (by omega)), HBR.out.set j _, hbx.setCell (Nat.le_refl _) _⟩
                case measure => simp [intOf]; omega
              · have hBI := hid (HBR.out.bools HLB.out)
                have HO2 := hid (own_below HO.out hbx (Nat.le_refl _))
                have hwx := hbx.size
                go_wp2_with fail
                have hj256 : j = 256 := by omega
                have HUK := hid (fun (u : Se) (h : MakeAt lb 256 u) => (show u.ok ∧ ∀ b, b < 256 → hasS u b = decide (l.getD b 0 = (k : Int)) from isTo_made (by rw [HLE.out, hj256] at h; exact h) (by omega)))
                clear hj256
                refine (makeR_is hBI.out HLB.out (fun g hg => hg)).mono ?_
                rintro e w3 ⟨⟨u, rfl, hmk⟩, hb3⟩
                have HUS := hid (hso.out.snoc (HSK.out.symm ▸ HUK.out u hmk))
                clear hmk
                have HO3 := hid (own_later HO2.out hb3)
                have hb30 := hbx0.trans (hb3.mono (by omega))
                have hs3 := hb30.size
                go_wp2_with (at_builtin; refine wpList_append_own _ rfl _ _ 56 rfl w.heap.size 65 i0 _ 4 32 Tryd.underlying56 HI.out HZ.out.1 HZ.out.2.1 HZ.out.2.2 rfl (by decide) _ _ _ rfl (HO3.out.alloc _) ⟨w3.heap.size, 0, none⟩ 1 1 u.cs.toList rfl rfl (fun j u hu => row_at_new _ _ _ j u hu) (se_cells u) (by unfold maxLen; omega) (by omega) (by simp; omega) ?_)
                intro p' w4 hown4 hgrow4 _
                have HO4 := hid hown4
                have HB4 := hid ((hb30.alloc hs3 _).grown hgrow4 (by simp; omega) (fun q hq => (HO3.out.lt q hq).1))
                clear hown4 hgrow4
                go_wp2
                go_roundw
                case rel => exact ⟨k + 1, ss ++ [u], by rw [List.length_append, HSK.out]; rfl, HUS, by omega, by go_num, by rw [flat_snoc]; exact HO4.out, HB4.out⟩
                case measure => simp [intOf]; omega
          · have hkn : k = n := by have := HM.out; omega
            have HKN := hid hkn
            clear hkn
            go_wp2
            go_ret2
            unfold SetsFull
            rw [HN.out]
            exact ⟨hbel, adp, cpp, ss, by rw [HKN.out]; rfl, by omega, HSK.out.trans HKN.out, by rw [← HKN.out]; exact HO.out, hso.out⟩
  · have hb256 : ((l.length : Int) != 256) = true := by simp; omega
    have HN := hid (show partsOf l = none by unfold partsOf; rw [if_neg h256])
    clear h256
    go_enter Tryd.func69, Tryd.ntmps69
    go_wp2
    go_ret2
    unfold SetsFull
    rw [HN.out]
    exact ⟨Below.refl _ _, rfl⟩
end Go.Proofs.YtfjomnhdmkbkiaaDoor.Im

namespace Go.Proofs.YtfjomnhdmkbkiaaDoor.Im
open Go.RowKit Go.Lib

theorem sets_parts {l : List Se} {ks : List (List B)} {p : List Se} {fs : List Nat} (h : PartAt l 256 ks p fs) {ss : List Se} (hl : ss.length = p.length) (hs : SetsSo (clsOf l ks) ss) : ss = p := by
  refine List.ext_getElem hl fun i h1 h2 => ?_
  obtain ⟨ok, has⟩ := hs i h1
  refine Se.same ok (h.ok _ (List.getElem_mem h2)) fun x hx => ?_
  rw [has x hx, h.part h2 hx]
  have e : (clsOf l ks).getD x 0 = ((ks.idxOf (keyM l x) : Nat) : Int) := by
    have hxl : x < (clsOf l ks).length := by rw [clsOf_len]; exact hx
    rw [List.getD_eq_getElem?_getD, List.getElem?_eq_getElem hxl, clsOf_get]; rfl
  rw [e]
  exact decide_eq_decide.2 (by omega)
theorem ints_cls {w : World} {H : Nat} {cl : List Int} (h : ClsIn w H cl) (hl : cl.length = 256) : IntsIn (fun g => g = H) w (.slice (some ⟨H, 0, none⟩) cl.length 256) cl :=
  ⟨_, _, rfl, by rw [hl]; unfold maxLen; omega, fun _ => ⟨H, 0, rfl, rfl, fun i hi => ⟨_, by rw [Nat.zero_add]; exact cls_cell h (by omega) hi, rfl⟩⟩⟩
set_option maxRecDepth 100000 in
set_option maxHeartbeats 4000000 in
theorem partsR_any {F : Nat → Prop} {w : World} {v : Value} {l : List Se} {ks : List (List B)} {p : List Se} {fs : List Nat} (hl : SetsIn F w v l) (hF : ∀ g, F g → g < w.heap.size) (hs : l.length ≤ 1024) (hok : ∀ s ∈ l, s.ok) (hp : PartAt l 256 ks p fs) :
    Calls Tryd.prog 48 #[v] w (SetsPost w (some p)) := by
  have hcall := classesR_any hl hF hok hp.law
  rw [numsOf_cls] at hcall
  have HC := hid hcall
  have HP := hid hp
  obtain ⟨ad, cp, rfl, _, _⟩ := hl
  have hs' : ¬ ((1024 : Int) < (l.length : Int)) := by omega
  clear hcall hp
  go_enter Tryd.func48, Tryd.ntmps48
  go_wp2_with fail
  refine HC.out.mono ?_
  rintro e w1 ⟨rfl, hown1, hb1⟩
  have hset := setsR_full (ints_cls hown1 (clsOf_len _ _)) (fun g hg => by rw [hg]; exact (own_lt hown1 (g := w.heap.size) rfl).2)
  rw [clsOf_len] at hset
  have HS := hid hset
  have HB1 := hid hb1
  clear hown1 hset hb1
  go_wp2_with fail
  refine HS.out.mono ?_
  rintro e w2 ⟨hb2, hx⟩
  rw [clsOf_parts HP.out] at hx
  obtain ⟨adp, cpp, ss, rfl, _, hsl, hown, hso⟩ := hx
  obtain rfl := sets_parts HP.out hsl hso
  have HO := hid (own_mono hown HB1.out.size)
  have HB2 := hid (HB1.out.trans (hb2.mono HB1.out.size))
  clear hb2 hown hso
  go_wp2_with fail
  go_ret2
  exact ⟨HB2.out, adp, cpp, rfl, HO.out⟩
set_option maxRecDepth 100000 in
set_option maxHeartbeats 2000000 in
theorem partsR_many {F : Nat → Prop} {w : World} {v : Value} {l : List Se} (hl : SetsIn F w v l) (hs : 1024 < l.length) :
    Calls Tryd.prog 48 #[v] w fun e w' => e = .returned (.tuple #[.slice none 0 0, .int .i64 2]) ∧ w' = w := by
  obtain ⟨ad, cp, rfl, hm, _⟩ := hl
  unfold maxLen at hm
  have hs' : (1024 : Int) < (l.length : Int) := by omega
  clear hs
  go_enter Tryd.func48, Tryd.ntmps48
  go_wp2
  go_ret2
  exact ⟨rfl, rfl⟩
/-- what the inner loop of Right has come to -/
def cntM (c i : Nat) : Nat := if c < i then 1 else 0
def nxtM (c n i : Nat) : Nat := if c = n ∧ c < i then n + 1 else n
set_option maxRecDepth 100000 in
set_option maxHeartbeats 4000000 in
theorem right2_any {F : Nat → Prop} {w : World} {v : Value} {l : List Se} {ks : List (List B)} {p : List Se} {fs : List Nat} (hl : SetsIn F w v p) (hF : ∀ g, F g → g < w.heap.size) (hp : PartAt l 256 ks p fs) :
    Calls Tryd.prog 82 #[v] w fun e w' => e = .returned (.bool true) ∧ Below w.heap.size w w' := by
  have HL := hid hl
  have HF := hid hF
  have HP := hid hp
  have HLEN := hid hp.len
  have HC := hid hp.law
  obtain ⟨ad, cp, rfl, hm, _⟩ := hl
  unfold maxLen at hm
  clear hF hp
  go_enter Tryd.func82, Tryd.ntmps82
  go_wp2
  go_loopw [3, 4] (fun vn vb wr => ∃ (k n : Nat), k ≤ 256 ∧ n ≤ p.length ∧ vb = .int .i64 k ∧ vn = .int .i64 n ∧ Hid (ClsN fs k n) ∧ Below w.heap.size w wr) (fun _ vb _ => 256 - (intOf vb).toNat)
  case atStart => exact ⟨0, 0, Nat.zero_le _, Nat.zero_le _, rfl, rfl, ClsN.start _, Below.refl _ _⟩
  case round =>
    obtain ⟨k, n, hk, hn, rfl, rfl, hcn, hbel⟩ := hrel
    have HB := hid hbel
    clear hbel
    by_cases hlt : k < 256
    · obtain ⟨hck, hc1, hc2⟩ := HC.out.step k hlt n hcn.out
      have HC1 := hid hc1
      have HC2 := hid hc2
      have hcl : ks.idxOf (keyM l k) < p.length := by rw [HLEN.out]; exact (HP.out.idx (HP.out.all k hlt)).1
      have HPT := hid (fun (i : Nat) (hi : i < p.length) => HP.out.part hi hlt)
      generalize ks.idxOf (keyM l k) = c at *
      obtain ⟨wo, rfl⟩ : ∃ wo : World, wo = wr := ⟨_, rfl⟩
      have hltI : ((k : Nat) : Int) < 256 := by omega
      have hcnl : c = n → n < p.length := by omega
      have HCNL := hid hcnl
      have HCL := hid hcl
      have HCK := hid hck
      clear hc1 hc2 hcnl hcl hck
      go_wp2_with fail
      go_loopw [3, 5, 6] (fun vn vc vi wr => ∃ (i : Nat), i ≤ p.length ∧ vi = .int .i64 i ∧ vc = .int .i64 (cntM c i) ∧ vn = .int .i64 (nxtM c n i) ∧ Below wo.heap.size wo wr) (fun _ _ vi _ => p.length - (intOf vi).toNat)
      case atStart => exact ⟨0, Nat.zero_le _, rfl, rfl, by unfold nxtM; rw [if_neg (by omega)], Below.refl _ _⟩
      case round =>
        obtain ⟨i, hi, rfl, rfl, rfl, hbi⟩ := hrel
        have HBI := hid hbi
        clear hbi
        by_cases hil : i < p.length
        · obtain ⟨g, off, rfl, hFg, c0, c1, c2, c3⟩ := (SetsIn.frame HL.out (w' := wr) (F' := F) (fun _ h => h) (fun q hq _ => (HBI.out.block q (Nat.lt_of_lt_of_le (HF.out q hq) HB.out.size)).trans (HB.out.block q (HF.out q hq)))).at' hil
          have hh := hasR_any p[i] (HP.out.ok _ (List.getElem_mem hil)) (k : Int) k rfl hlt wr
          rw [HPT.out i hil] at hh
          generalize p[i] = s at *
          by_cases hci : c = i
          · rw [decide_eq_true hci] at hh
            have HH := hid hh
            have e1 : cntM c i = 0 := by unfold cntM; rw [if_neg (by omega)]
            have e2 : nxtM c n i = n := by unfold nxtM; rw [if_neg (by omega)]
            rw [e1, e2]
            clear hh
            by_cases hin : c = n
            · have e3 := hid (show cntM c (i + 1) = 1 by unfold cntM; rw [if_pos (by omega)])
              have e4 := hid (show nxtM c n (i + 1) = n + 1 by unfold nxtM; rw [if_pos (by omega)])
              have hnl := HCNL.out hin
              obtain rfl : i = n := by omega
              clear e1 e2 hci hin
              go_wp2_with (go_at_call 83; refine HH.out.mono ?_; rintro e' w2 ⟨rfl, hb2⟩; have HB2 := hid hb2; clear hb2)
              go_roundw
              case rel => exact ⟨i + 1, by omega, by go_num, by rw [e3.out]; rfl, by rw [e4.out]; go_num, HBI.out.trans (HB2.out.mono HBI.out.size)⟩
              case measure => simp [intOf]; omega
            · have e3 := hid (show cntM c (i + 1) = 1 by unfold cntM; rw [if_pos (by omega)])
              have e4 := hid (show nxtM c n (i + 1) = n by unfold nxtM; rw [if_neg (by omega)])
              have hck := HCK.out
              have hg : ¬ ((n : Int) < (i : Int)) := by omega
              have he : ((i : Int) == (n : Int)) = false := by simp; omega
              clear e1 e2 hci hin hck
              go_wp2_with (go_at_call 83; refine HH.out.mono ?_; rintro e' w2 ⟨rfl, hb2⟩; have HB2 := hid hb2; clear hb2)
              go_roundw
              case rel => exact ⟨i + 1, by omega, by go_num, by rw [e3.out]; rfl, by rw [e4.out], HBI.out.trans (HB2.out.mono HBI.out.size)⟩
              case measure => simp [intOf]; omega
          · rw [decide_eq_false (fun e => hci e)] at hh
            have HH := hid hh
            have e3 := hid (show cntM c (i + 1) = cntM c i by unfold cntM; split <;> split <;> omega)
            have e4 := hid (show nxtM c n (i + 1) = nxtM c n i by unfold nxtM; split <;> split <;> omega)
            generalize cntM c i = ci at *
            generalize nxtM c n i = ni at *
            clear hh hci
            go_wp2_with (go_at_call 83; refine HH.out.mono ?_; rintro e' w2 ⟨rfl, hb2⟩; have HB2 := hid hb2; clear hb2)
            go_roundw
            case rel => exact ⟨i + 1, by omega, by go_num, by rw [e3.out], by rw [e4.out], HBI.out.trans (HB2.out.mono HBI.out.size)⟩
            case measure => simp [intOf]; omega
        · obtain rfl : i = p.length := by omega
          have hcl := HCL.out
          have e1 : cntM c p.length = 1 := by unfold cntM; rw [if_pos hcl]
          rw [e1]
          have HNX := hid (show ClsN fs (k + 1) (nxtM c n p.length) ∧ nxtM c n p.length ≤ p.length by
            unfold nxtM
            have hck := HCK.out
            split
            · rename_i h
              exact ⟨(HC2.out h.1).2, by have := HCNL.out h.1; omega⟩
            · exact ⟨HC1.out (by omega), hn⟩)
          generalize nxtM c n p.length = n2 at *
          clear e1 hcl
          go_wp2_with fail
          refine And.intro ?_ ?_
          · exact ⟨k + 1, n2, by omega, HNX.out.2, by go_num, rfl, HNX.out.1, HB.out.trans (HBI.out.mono HB.out.size)⟩
          · simp [intOf]; omega
    · obtain rfl : k = 256 := by omega
      have hne : n = p.length := by rw [HLEN.out]; exact hcn.out.last HP.out
      subst hne
      go_wp2_with fail
      go_ret
      exact ⟨rfl, HB.out⟩
end Go.Proofs.YtfjomnhdmkbkiaaDoor.Im

namespace Go.Proofs.YtfjomnhdmkbkiaaDoor.Im
open Go.RowKit Go.Lib

set_option maxRecDepth 100000 in
set_option maxHeartbeats 2000000 in
theorem class2_any {F : Nat → Prop} {w : World} {v : Value} {l : List Se} {ks : List (List B)} {p : List Se} {fs : List Nat} (hl : SetsIn F w v p) (hF : ∀ g, F g → g < w.heap.size) (hp : PartAt l 256 ks p fs) :
    Calls Tryd.prog 50 #[v] w fun e w' => ∃ C, w.heap.size ≤ C ∧ e = .returned (.tuple #[.slice (some ⟨C, 0, none⟩) 256 256, .int .i64 0]) ∧ ClsIn w' C (clsOf l ks) ∧ Below w.heap.size w w' := by
  have HL := hid hl
  have HF := hid hF
  have HP := hid hp
  have hr := right2_any hl hF hp
  have HR := hid hr
  obtain ⟨ad, cp, rfl, _, _⟩ := hl
  clear hF hp hr
  go_enter Tryd.func50, Tryd.ntmps50
  go_wp2_with fail
  refine HR.out.mono ?_
  rintro e w1 ⟨rfl, hb1⟩
  have hcall := classesR_any (SetsIn.frame HL.out (w' := w1) (F' := F) (fun _ h => h) (fun q hq _ => hb1.block q (HF.out q hq))) (fun g hg => Nat.lt_of_lt_of_le (HF.out g hg) hb1.size) HP.out.ok HP.out.law2
  rw [numsOf_cls] at hcall
  have HC := hid hcall
  have HB1 := hid hb1
  clear hcall hb1
  go_wp2_with fail
  refine HC.out.mono ?_
  rintro e w2 ⟨rfl, hc2, hb2⟩
  have HC2 := hid hc2
  have HB2 := hid (HB1.out.trans (hb2.mono HB1.out.size))
  clear hc2 hb2
  go_wp2_with fail
  go_ret2
  exact ⟨_, HB1.out.size, rfl, HC2.out, HB2.out⟩
set_option maxRecDepth 100000 in
set_option maxHeartbeats 4000000 in
theorem intsR_any {F G : Nat → Prop} {w : World} {v v' : Value} {l l' : List Int} (hl : IntsIn F w v l) (hl' : IntsIn G w v' l') (hF : ∀ g, F g → g < w.heap.size) (hG : ∀ g, G g → g < w.heap.size) :
    Calls Tryd.prog 53 #[v, v'] w fun e w' => e = .returned (.bool (decide (l = l'))) ∧ Below w.heap.size w w' := by
  have HL := hid hl
  have HL' := hid hl'
  have HF := hid hF
  have HG := hid hG
  obtain ⟨ad, cp, rfl, hm, _⟩ := hl
  obtain ⟨ad', cp', rfl, hm', _⟩ := hl'
  unfold maxLen at hm hm'
  clear hF hG
  by_cases hlen : l.length = l'.length
  · have HLEN := hid hlen
    have HLK := hid (fun (k : Nat) (h : k < l.length) => (show k < l'.length by rw [← hlen]; exact h))
    rw [← hlen]
    rw [← hlen] at hm'
    have HL2 := hid (show IntsIn G w (.slice ad' l.length cp') l' by rw [hlen]; exact HL'.out)
    clear hlen
    go_enter Tryd.func53, Tryd.ntmps53
    go_wp2_with fail
    go_loopw [5] (fun i wr => ∃ k : Nat, k ≤ l.length ∧ i = .int .i64 k ∧ Hid (l.take k = l'.take k) ∧ Below w.heap.size w wr) (fun i _ => l.length - (intOf i).toNat)
    case atStart => exact ⟨0, Nat.zero_le _, rfl, hid (by simp), Below.refl _ _⟩
    case round =>
      obtain ⟨k, hk, rfl, heq, hb⟩ := hrel
      have HB := hid hb
      clear hb
      by_cases hlt : k < l.length
      · obtain ⟨g, off, rfl, hg, x1⟩ := ints_at (HL.out.frame (F' := F) (w' := wr) (fun _ h => h) (fun g hg _ => HB.out.block g (HF.out g hg))) hlt
        obtain ⟨g', off', rfl, hg', x2⟩ := ints_at (HL2.out.frame (F' := G) (w' := wr) (fun _ h => h) (fun g hg _ => HB.out.block g (HG.out g hg))) (HLK.out k hlt)
        by_cases he : l[k] = l'[k]'(HLK.out k hlt)
        · have HEQ := hid (show l.take (k + 1) = l'.take (k + 1) by rw [take_succ' _ _ hlt, take_succ' _ _ (HLK.out k hlt), heq.out, he])
          rw [← he] at x2
          generalize l[k] = z at *
          clear he heq
          go_wp2_with fail
          go_region
          all_goals go_wp2_with fail
          all_goals go_roundw
          all_goals first
            | (case rel => exact ⟨k + 1, by omega, by go_num, HEQ, HB.out.drew⟩)
            | (case measure => simp [intOf]; omega)
        · have HNO := hid (show decide (l = l') = false from decide_eq_false (fun e => he (by subst e; rfl)))
          generalize l[k] = z at *
          generalize l'[k]'(HLK.out k hlt) = z' at *
          have hne : (z == z') = false := by simpa using he
          clear he heq
          go_wp2_with fail
          go_region
          all_goals go_wp2_with fail
          all_goals go_ret
          all_goals exact ⟨bool_eq HNO.out.symm, HB.out.drew⟩
      · obtain rfl : k = l.length := by omega
        have HYES := hid (show decide (l = l') = true by
          have h := heq.out
          rw [List.take_length, HLEN.out, List.take_length] at h
          exact decide_eq_true h)
        clear heq
        go_wp2_with fail
        go_ret
        exact ⟨bool_eq HYES.out.symm, HB.out⟩
  · have HNO := hid (show decide (l = l') = false from decide_eq_false (fun e => hlen (by rw [e])))
    have hne : ((l.length : Int) != (l'.length : Int)) = true := by simp; omega
    have hne2 : ((l.length : Int) == (l'.length : Int)) = false := by simp; omega
    have hne3 : ¬ (l.length : Int) = (l'.length : Int) := by omega
    clear hlen
    go_enter Tryd.func53, Tryd.ntmps53
    go_wp2_with fail
    go_ret
    exact ⟨bool_eq HNO.out.symm, Below.refl _ _⟩
end Go.Proofs.YtfjomnhdmkbkiaaDoor.Im

namespace Go.Proofs.YtfjomnhdmkbkiaaDoor.Im
open Go.RowKit Go.Lib

theorem mem_take_step {α : Type} [DecidableEq α] {x : α} {l : List α} {j : Nat} (h : j < l.length) : decide (x ∈ l.take (j + 1)) = (decide (x ∈ l.take j) || decide (l[j] = x)) := by
  rw [take_succ' _ _ h, Bool.eq_iff_iff, Bool.or_eq_true, decide_eq_true_eq, decide_eq_true_eq, decide_eq_true_eq, List.mem_append, List.mem_singleton]
  exact or_congr Iff.rfl eq_comm
set_option maxRecDepth 100000 in
set_option maxHeartbeats 4000000 in
theorem unlikeR_any {F : Nat → Prop} {w : World} {v : Value} {es : List Edge} (hl : EdgesIn F w v es) (hF : ∀ g, F g → g < w.heap.size) (hs : es.length ≤ 65536) :
    Calls Tryd.prog 49 #[v] w (UnlikePost w (unlikeM [] es)) := by
  have HL := hid hl
  have HF := hid hF
  obtain ⟨ad, cp, rfl, hm, _⟩ := hl
  unfold maxLen at hm
  obtain ⟨i0, hi, hz0, hz1, hz2⟩ := info_parts infoSet
  have HI := hid hi
  have HZ := hid (And.intro hz0 (And.intro hz1 hz2))
  clear hi hz0 hz1 hz2 hF
  go_enter Tryd.func49, Tryd.ntmps49
  go_wp2_with fail
  go_loopw [3, 4] (fun p i wr => ∃ (k : Nat) (ss : List Se), k ≤ es.length ∧ ss.length ≤ k ∧ i = .int .i64 k ∧ wr.ownsRow w.heap.size 65 4 p ss.length (flat ss) ∧ Hid (unlikeM ss (es.drop k) = unlikeM [] es) ∧ Below w.heap.size w wr) (fun _ i _ => es.length - (intOf i).toNat)
  case atStart => exact ⟨0, [], Nat.zero_le _, Nat.le_refl _, rfl, World.ownsRow_nil _ _ _ _, hid rfl, Below.refl _ _⟩
  case round =>
    obtain ⟨k, ss, hk, hsk, rfl, hown, hun, hbel⟩ := hrel
    obtain ⟨adp, cpp, rfl⟩ := own_shape hown
    have HO := hid hown
    have HB := hid hbel
    have hsz := hbel.size
    clear hown hbel
    by_cases hlt : k < es.length
    · obtain ⟨g, off, rfl, hFg, c0, c1, c2, c3, c4, c5⟩ := (EdgesIn.frame HL.out (w' := wr) (F' := F) (fun _ h => h) (fun q hq _ => HB.out.block q (HF.out q hq))).at' hlt
      have hgl := HF.out g hFg
      have hun1 := hun.out
      rw [drop_cons' es k hlt] at hun1
      obtain ⟨e, he1⟩ : ∃ e, e = es[k] := ⟨_, rfl⟩
      rw [← he1] at c2 c3 c4 c5 hun1
      have KE := hid (fun (W : World) (h : Below wr.heap.size wr W) => (show W.cell? ⟨g, off + k * 6 + 2, none⟩ = some (.int .u64 e.st.a) ∧ W.cell? ⟨g, off + k * 6 + 3, none⟩ = some (.int .u64 e.st.b) ∧ W.cell? ⟨g, off + k * 6 + 4, none⟩ = some (.int .u64 e.st.c) ∧ W.cell? ⟨g, off + k * 6 + 5, none⟩ = some (.int .u64 e.st.d) from
        ⟨(h.cell (by show g < wr.heap.size; omega)).trans c2, (h.cell (by show g < wr.heap.size; omega)).trans c3, (h.cell (by show g < wr.heap.size; omega)).trans c4, (h.cell (by show g < wr.heap.size; omega)).trans c5⟩))
      have HUN := hid hun1
      obtain ⟨wo, rfl⟩ : ∃ wo : World, wo = wr := ⟨_, rfl⟩
      clear hun hun1 he1 c0 c1 c2 c3 c4 c5 hgl
      go_wp2_with fail
      go_loopw [5, 6] (fun vt vj wr => ∃ j : Nat, j ≤ ss.length ∧ vj = .int .i64 j ∧ vt = .bool (decide (e.st ∈ ss.take j)) ∧ Below wo.heap.size wo wr) (fun _ vj _ => ss.length - (intOf vj).toNat)
      case atStart => exact ⟨0, Nat.zero_le _, rfl, by simp, Below.refl _ _⟩
      case round =>
        obtain ⟨j, hj, rfl, rfl, hbj⟩ := hrel
        have HBJ := hid hbj
        obtain ⟨c2, c3, c4, c5⟩ := KE.out wr hbj
        clear hbj
        by_cases hjl : j < ss.length
        · obtain ⟨gp, op, hadp, _, x0, x1, x2, x3⟩ := (sets_of_own (own_later HO.out HBJ.out) rfl (by unfold maxLen; omega)).at' hjl
          subst hadp
          have hst := mem_take_step (x := e.st) hjl
          have heq := eqSe ss[j] e.st
          generalize ss[j] = s at *
          by_cases ht : e.st ∈ ss.take j
          · rw [decide_eq_true ht, Bool.true_or] at hst
            rw [decide_eq_true ht]
            have HST := hid hst
            clear ht hst heq
            go_wp2_with fail
            go_quiet (fail)
            go_wp2_with fail
            go_roundw
            case rel => exact ⟨j + 1, by omega, by go_num, by rw [HST.out], below_drewN HBJ.out _⟩
            case measure => simp [intOf]; omega
          · rw [decide_eq_false ht, Bool.false_or] at hst
            rw [decide_eq_false ht]
            by_cases h2 : s = e.st
            · rw [decide_eq_true h2] at hst
              have HST := hid hst
              have heq' := fun w => (heq w).trans (by rw [decide_eq_true h2])
              clear ht hst heq h2
              go_wp2_with fail
              go_quiet (fail)
              go_wp2_with fail
              go_roundw
              case rel => exact ⟨j + 1, by omega, by go_num, by rw [HST.out], below_drewN HBJ.out _⟩
              case measure => simp [intOf]; omega
            · rw [decide_eq_false h2] at hst
              have HST := hid hst
              have heq' := fun w => (heq w).trans (by rw [decide_eq_false h2])
              clear ht hst heq h2
              go_wp2_with fail
              go_quiet (fail)
              go_wp2_with fail
              go_roundw
              case rel => exact ⟨j + 1, by omega, by go_num, by rw [HST.out], below_drewN HBJ.out _⟩
              case measure => simp [intOf]; omega
        · obtain rfl : j = ss.length := by omega
          rw [List.take_length]
          have HOJ := hid (own_later HO.out HBJ.out)
          have HBB := hid (HB.out.trans (HBJ.out.mono HB.out.size))
          have hsz2 := HBB.out.size
          by_cases hm2 : e.st ∈ ss
          · rw [decide_eq_true hm2]
            have HU := hid ((unlike_yes hm2).symm.trans HUN.out)
            clear hm2
            go_wp2_with fail
            refine And.intro ?_ ?_
            · exact ⟨k + 1, ss, by omega, by omega, by go_num, HOJ.out, HU, HBB.out⟩
            · simp [intOf]; omega
          · rw [decide_eq_false hm2]
            have HU := hid ((unlike_no hm2).symm.trans HUN.out)
            clear hm2
            go_wp2_with (at_builtin; refine wpList_append_own _ rfl _ _ 56 rfl w.heap.size 65 i0 _ 4 32 Tryd.underlying56 HI.out HZ.out.1 HZ.out.2.1 HZ.out.2.2 rfl (by decide) _ _ _ rfl (HOJ.out.alloc _) ⟨wr.heap.size, 0, none⟩ 1 1 e.st.cs.toList rfl rfl ?c1 ?c2 ?c3 ?c4 ?c5 ?_)
            case c2 => simp [Value.oneCell']
            case c3 => unfold maxLen; omega
            case c4 => omega
            case c5 => simp; omega
            intro p' w3 hown3 hgrow3 _
            have HG3 := hid hgrow3
            have HO3 := hid hown3
            have HB3 := hid ((HBB.out.alloc hsz2 _).grown HG3.out (by simp; omega) (fun q hq => (HOJ.out.lt q hq).1))
            clear hown3 hgrow3
            go_wp2_with fail
            refine And.intro ?_ ?_
            · exact ⟨k + 1, ss ++ [e.st], by omega, by simp; omega, by go_num, by rw [List.length_append, flat_snoc]; exact HO3.out, HU, HB3.out⟩
            · simp [intOf]; omega
    · obtain rfl : k = es.length := by omega
      have hun1 := hun.out
      rw [List.drop_length] at hun1
      have HE := hid (show unlikeM [] es = ss from hun1.symm)
      clear hun hun1
      go_wp2_with fail
      go_ret
      rw [HE.out]
      exact ⟨HB.out, adp, cpp, rfl, HO.out⟩
end Go.Proofs.YtfjomnhdmkbkiaaDoor.Im

namespace Go.Proofs.YtfjomnhdmkbkiaaDoor.Im
open Go.RowKit Go.Lib

theorem state_off {n s : Int} (h : ¬ (0 ≤ s ∧ s < n)) : stateOk n s = false := by
  unfold stateOk
  rw [Bool.eq_false_iff]
  intro h'
  simp at h'
  exact h h'
theorem state_on {n s : Int} (h0 : 0 ≤ s) (h1 : s < n) : stateOk n s = true := by unfold stateOk; simp [h0, h1]
set_option maxRecDepth 100000 in
set_option maxHeartbeats 4000000 in
theorem statesR_any {F : Nat → Prop} {w : World} {v : Value} {l : List Int} (hl : IntsIn F w v l) (hF : ∀ g, F g → g < w.heap.size) (n : Int) :
    Calls Tryd.prog 80 #[v, .int .i64 n] w fun e w' => e = .returned (.bool (riseM n none l)) ∧ Below w.heap.size w w' := by
  have HL := hid hl
  have HF := hid hF
  obtain ⟨ad, cp, rfl, hm, _⟩ := hl
  unfold maxLen at hm
  clear hF
  go_enter Tryd.func80, Tryd.ntmps80
  go_wp2_with fail
  go_loopw [5] (fun i wr => ∃ k : Nat, k ≤ l.length ∧ i = .int .i64 k ∧ Hid (riseM n none l = riseM n (prevR l k) (l.drop k)) ∧ Below w.heap.size w wr) (fun i _ => l.length - (intOf i).toNat)
  case atStart => exact ⟨0, Nat.zero_le _, rfl, hid rfl, Below.refl _ _⟩
  case round =>
    obtain ⟨k, hk, rfl, hri, hb⟩ := hrel
    have HB := hid hb
    clear hb
    by_cases hlt : k < l.length
    · have HW := hid (HL.out.frame (F' := F) (w' := wr) (fun _ h => h) (fun q hq _ => HB.out.block q (HF.out q hq)))
      obtain ⟨g, off, rfl, hFg, hx⟩ := ints_at HW.out hlt
      have hri1 := hri.out
      rw [rise_step hlt] at hri1
      obtain ⟨s, hs⟩ : ∃ s, s = l[k] := ⟨_, rfl⟩
      rw [← hs] at hx hri1
      clear hri hs
      by_cases h0 : s < 0
      · have d0 : decide (s < 0) = true := decide_eq_true h0
        have HR := hid (show riseM n none l = false by rw [hri1, state_off (by omega)]; simp)
        clear hri1
        go_wp2_with fail
        go_quiet (fail)
        go_wp2_with fail
        go_ret
        exact ⟨bool_eq HR.out.symm, below_drewN HB.out _⟩
      · have d0 : decide (s < 0) = false := decide_eq_false h0
        by_cases h1 : n ≤ s
        · have d1 : decide (n ≤ s) = true := decide_eq_true h1
          have HR := hid (show riseM n none l = false by rw [hri1, state_off (by omega)]; simp)
          clear hri1
          go_wp2_with fail
          go_quiet (fail)
          go_wp2_with fail
          go_ret
          exact ⟨bool_eq HR.out.symm, below_drewN HB.out _⟩
        · rw [state_on (by omega) (by omega), Bool.true_and] at hri1
          have d1 : decide (n ≤ s) = false := decide_eq_false h1
          by_cases hk0 : k = 0
          · subst hk0
            rw [Nat.add_zero] at hx
            have HR := hid (show riseM n none l = riseM n (prevR l (0 + 1)) (l.drop (0 + 1)) by rw [hri1]; simp)
            clear hri1
            go_wp2_with fail
            go_quiet (fail)
            go_wp2_with fail
            go_roundw
            case rel => exact ⟨1, by omega, by go_num, HR, below_drewN HB.out _⟩
            case measure => simp [intOf]; omega
          · have hlt1 : k - 1 < l.length := by omega
            obtain ⟨g', off', e', _, hy⟩ := ints_at HW.out hlt1
            cases e'
            have e3 : l.getD (k - 1) 0 = l[k - 1] := by rw [List.getD_eq_getElem?_getD, List.getElem?_eq_getElem hlt1]; rfl
            rw [e3] at hri1
            obtain ⟨q, hq⟩ : ∃ q, q = l[k - 1] := ⟨_, rfl⟩
            rw [← hq] at hy hri1
            have d2 : decide (0 < k) = true := decide_eq_true (by omega)
            have hj0 : (0 : Int) ≤ (k : Int) - 1 := by omega
            have hj1 : (k : Int) - 1 < (l.length : Int) := by omega
            have hj2 : ((k : Int) - 1).toNat = k - 1 := by omega
            have hsub : IntKind.i64.wrap ((k : Int) - 1) = (k : Int) - 1 := IntWalk.i64_in _ (by omega)
            clear e3 hq
            by_cases hqs : q < s
            · have HR := hid (show riseM n none l = riseM n (prevR l (k + 1)) (l.drop (k + 1)) by rw [hri1]; simp [hqs])
              have d3 : decide (s ≤ q) = false := decide_eq_false (by omega)
              clear hri1 hk0 hqs
              go_wp2_with fail
              go_quiet (fail)
              clear hsub hj2
              go_wp2_with fail
              go_roundw
              case rel => exact ⟨k + 1, by omega, by go_num, HR, below_drewN HB.out _⟩
              case measure => simp [intOf]; omega
            · have HR := hid (show riseM n none l = false by rw [hri1]; simp [hqs, hk0])
              have d3 : decide (s ≤ q) = true := decide_eq_true (by omega)
              clear hri1 hk0 hqs
              go_wp2_with fail
              go_quiet (fail)
              clear hsub hj2
              go_wp2_with fail
              go_ret
              exact ⟨bool_eq HR.out.symm, below_drewN HB.out _⟩
    · obtain rfl : k = l.length := by omega
      have HR := hid (show riseM n none l = true by
        rw [hri.out, List.drop_length]; cases prevR l l.length <;> rfl)
      clear hri
      go_wp2_with fail
      go_ret
      exact ⟨bool_eq HR.out.symm, HB.out⟩
set_option maxRecDepth 100000 in
set_option maxHeartbeats 8000000 in
theorem right10_any {F : Nat → Prop} {w : World} {s a b c : Value} {n : Nfa} (hn : NfaIn F w s a b c n) (hF : ∀ g, F g → g < w.heap.size) :
    Calls Tryd.prog 47 #[.agg #[s, a, b, c]] w fun e w' => e = .returned (.bool (nfaOk n)) ∧ Below w.heap.size w w' := by
  obtain ⟨W0, hW0⟩ : ∃ W0, W0 = w.alloc (.cells #[s, a, b, c] 25) := ⟨_, rfl⟩
  have hA0 : W0.heap[w.heap.size]? = some (.cells #[s, a, b, c] 25 (0, 0)) := by rw [hW0]; exact heap_alloc_new _ _
  have hB0 : Below w.heap.size w W0 := by rw [hW0]; exact (Below.refl _ _).alloc (Nat.le_refl _) _
  have hz0 : W0.heap.size = w.heap.size + 1 := by rw [hW0]; simp
  have HB := hid (fun (W : World) (h : Below (w.heap.size + 1) W0 W) => hB0.trans (h.mono (by omega)))
  have HN := hid (fun (W : World) (h : Below (w.heap.size + 1) W0 W) => (show NfaIn F W s a b c n from hn.frame (fun _ h => h) (fun g hg _ => (HB.out W h).block g (hF g hg))))
  have HF := hid (fun (W : World) (h : Below (w.heap.size + 1) W0 W) (g : Nat) (hg : F g) => (show g < W.heap.size from Nat.lt_of_lt_of_le (hF g hg) (HB.out W h).size))
  have HX := hid (fun (W : World) (h : Below (w.heap.size + 1) W0 W) => ncells ((h.block w.heap.size (by omega)).trans hA0))
  have HZ := hid (fun (W : World) (h : Below (w.heap.size + 1) W0 W) => (show w.heap.size + 1 ≤ W.heap.size by have := h.size; omega))
  have HTH := hid (fun (W W' : World) (h : Below (w.heap.size + 1) W0 W) (h' : Below W.heap.size W W') => h.trans (h'.mono (by have := h.size; omega)))
  have HALL := hid (show nfaOk n = (decide (0 ≤ n.states) && decide (n.states ≤ 4096) && decide (n.edges.length ≤ 65536) && riseM n.states none n.starts && riseM n.states none n.ends && n.edges.all (edgeOk n.states)) from rfl)
  have hsv := hn.states
  subst hsv
  obtain ⟨ada, cpa, rfl, hma, _⟩ := hn.starts
  obtain ⟨adb, cpb, rfl, hmb, _⟩ := hn.ends
  obtain ⟨adc, cpc, rfl, hmc, _⟩ := hn.edges
  unfold maxLen at hma hmb hmc
  have HW0 := hid hW0
  clear hn hF hA0 hB0 hW0 hz0
  obtain ⟨q0, q1, q2, q3⟩ := HX.out W0 (Below.refl _ _)
  go_enter Tryd.func47, Tryd.ntmps47
  go_upto_region 1 with fail
  rw [← HW0.out]
  by_cases n0 : n.states < 0
  · have HNO := hid (show nfaOk n = false by rw [HALL.out, decide_eq_false (by omega)]; rfl)
    go_wp2_with fail
    go_ret
    exact ⟨bool_eq HNO.out.symm, HB.out _ (Below.refl _ _)⟩
  by_cases n1 : 4096 < n.states
  · have HNO := hid (show nfaOk n = false by rw [HALL.out, decide_eq_false (show ¬ n.states ≤ 4096 by omega), Bool.and_false]; rfl)
    go_wp2_with fail
    go_ret
    exact ⟨bool_eq HNO.out.symm, HB.out _ (Below.refl _ _)⟩
  have hc1 := statesR_any (HN.out W0 (Below.refl _ _)).starts (HF.out W0 (Below.refl _ _)) n.states
  go_wp2_with fail
  refine hc1.mono ?_
  clear hc1
  rintro e w1 ⟨rfl, hb1⟩
  have H1 := hid (HTH.out _ _ (Below.refl _ _) hb1)
  clear q0 q1 q2 q3 hb1
  obtain ⟨q0, q1, q2, q3⟩ := HX.out w1 H1.out
  cases r1 : riseM n.states none n.starts with
  | false =>
    have HNO := hid (show nfaOk n = false by rw [HALL.out, r1]; simp)
    clear r1
    go_wp2_with fail
    go_ret
    exact ⟨bool_eq HNO.out.symm, HB.out _ H1.out⟩
  | true =>
    have R1 := hid r1
    clear r1
    have hc2 := statesR_any (HN.out w1 H1.out).ends (HF.out w1 H1.out) n.states
    go_wp2_with fail
    refine hc2.mono ?_
    clear hc2
    rintro e w2 ⟨rfl, hb2⟩
    have H2 := hid (HTH.out _ _ H1.out hb2)
    clear q0 q1 q2 q3 hb2
    obtain ⟨q0, q1, q2, q3⟩ := HX.out w2 H2.out
    cases r2 : riseM n.states none n.ends with
    | false =>
      have HNO := hid (show nfaOk n = false by rw [HALL.out, r2]; simp)
      clear r2
      go_wp2_with fail
      go_ret
      exact ⟨bool_eq HNO.out.symm, HB.out _ H2.out⟩
    | true =>
      by_cases n2 : 65536 < n.edges.length
      · have HNO := hid (show nfaOk n = false by rw [HALL.out, decide_eq_false (show ¬ n.edges.length ≤ 65536 by omega), Bool.and_false]; rfl)
        have n2' : (65536 : Int) < n.edges.length := by omega
        clear r2 n2
        go_wp2_with fail
        go_ret
        exact ⟨bool_eq HNO.out.symm, HB.out _ H2.out⟩
      · have n2' : ¬ (65536 : Int) < n.edges.length := by omega
        have HOK := hid (show nfaOk n = n.edges.all (edgeOk n.states) by
          rw [HALL.out, decide_eq_true (show 0 ≤ n.states by omega), decide_eq_true (show n.states ≤ 4096 by omega), decide_eq_true (show n.edges.length ≤ 65536 by omega), R1.out, r2]; rfl)
        clear r2 n2
        go_wp2_with fail
        go_loopw [3] (fun i wr => ∃ k : Nat, k ≤ n.edges.length ∧ i = .int .i64 k ∧ Hid ((n.edges.take k).all (edgeOk n.states) = true) ∧ Below (w.heap.size + 1) W0 wr) (fun i _ => n.edges.length - (intOf i).toNat)
        case atStart => exact ⟨0, Nat.zero_le _, rfl, hid (by simp), H2.out⟩
        case round =>
          clear q0 q1 q2 q3
          obtain ⟨k, hk, rfl, hall, hb⟩ := hrel
          have HBK := hid hb
          have hzr := HZ.out wr hb
          clear hb
          obtain ⟨q0, q1, q2, q3⟩ := HX.out wr HBK.out
          have qq := fun (o : Obj) => (show (wr.alloc o).cell? ⟨w.heap.size, 0, none⟩ = some (.int .i64 n.states) from (cell_heap (alloc_old (by omega))).trans q0)
          by_cases hlt : k < n.edges.length
          · obtain ⟨g, off, rfl, hFg, c0, c1, c2, c3, c4, c5⟩ := (HN.out wr HBK.out).edges.at' hlt
            have hmem := List.getElem_mem hlt
            have HSN := hid (fun h => all_snoc (p := edgeOk n.states) hlt hall.out h)
            have HNO := hid (fun h => (show nfaOk n = false by rw [HOK.out]; exact all_not (p := edgeOk n.states) hmem h))
            have HB1 := hid (fun (o : Obj) => (show Below (w.heap.size + 1) W0 (wr.alloc o) from HBK.out.alloc hzr o))
            clear hmem hall
            generalize n.edges[k] = e at *
            have he' : edgeOk n.states e = (stateOk n.states e.fr && stateOk n.states e.dst && !decide (e.st = Se.none)) := rfl
            by_cases f0 : e.fr < 0
            · have HN1 := hid (HNO.out (by rw [he', state_off (by omega)]; rfl))
              clear he'
              go_wp2_with fail
              go_ret
              exact ⟨bool_eq HN1.out.symm, HB.out _ (HB1.out _)⟩
            by_cases f1 : n.states ≤ e.fr
            · have HN1 := hid (HNO.out (by rw [he', state_off (by omega)]; rfl))
              clear he'
              go_wp2_with fail
              go_ret
              exact ⟨bool_eq HN1.out.symm, HB.out _ (HB1.out _)⟩
            by_cases d0 : e.dst < 0
            · have HN1 := hid (HNO.out (by rw [he', state_off (s := e.dst) (by omega)]; simp))
              clear he'
              go_wp2_with fail
              go_ret
              exact ⟨bool_eq HN1.out.symm, HB.out _ (HB1.out _)⟩
            by_cases d1 : n.states ≤ e.dst
            · have HN1 := hid (HNO.out (by rw [he', state_off (s := e.dst) (by omega)]; simp))
              clear he'
              go_wp2_with fail
              go_ret
              exact ⟨bool_eq HN1.out.symm, HB.out _ (HB1.out _)⟩
            have hz := eqNone e.st
            by_cases s3 : e.st = Se.none
            · have HN1 := hid (HNO.out (by rw [he', decide_eq_true s3]; simp))
              rw [decide_eq_true s3] at hz
              clear he' s3
              go_wp2_with fail
              go_ret
              exact ⟨bool_eq HN1.out.symm, HB.out _ (HB1.out _)⟩
            · have HS1 := hid (HSN.out (by rw [he', state_on (s := e.fr) (by omega) (by omega), state_on (s := e.dst) (by omega) (by omega), decide_eq_false s3]; rfl))
              rw [decide_eq_false s3] at hz
              clear he' s3
              go_wp2_with fail
              go_roundw
              case rel => exact ⟨k + 1, by omega, by go_num, HS1, HB1.out _⟩
              case measure => simp [intOf]; omega
          · obtain rfl : k = n.edges.length := by omega
            have HYES := hid (show nfaOk n = true by rw [HOK.out]; have := hall.out; rw [List.take_length] at this; exact this)
            clear hall
            go_wp2_with fail
            go_ret
            exact ⟨bool_eq HYES.out.symm, HB.out _ HBK.out⟩
end Go.Proofs.YtfjomnhdmkbkiaaDoor.Im

namespace Go.Proofs.YtfjomnhdmkbkiaaDoor.Im
open Go.RowKit Go.Lib

set_option maxRecDepth 100000 in
set_option maxHeartbeats 4000000 in
theorem ints_quiet {F G : Nat → Prop} {w : World} {v v' : Value} {l : List Int} (hl : IntsIn F w v l) (hl' : IntsIn G w v' l) :
    Calls Tryd.prog 53 #[v, v'] w fun e w' => e = .returned (.bool true) ∧ ∃ m, w' = w.drewN m := by
  have HL := hid hl
  have HL' := hid hl'
  obtain ⟨ad, cp, rfl, hm, _⟩ := hl
  obtain ⟨ad', cp', rfl, hm', _⟩ := hl'
  unfold maxLen at hm hm'
  go_enter Tryd.func53, Tryd.ntmps53
  go_wp2_with fail
  go_loopw [5] (fun i wr => ∃ k m : Nat, k ≤ l.length ∧ i = .int .i64 k ∧ wr = w.drewN m) (fun i _ => l.length - (intOf i).toNat)
  case atStart => exact ⟨0, 0, Nat.zero_le _, rfl, rfl⟩
  case round =>
    obtain ⟨k, m, hk, rfl, rfl⟩ := hrel
    by_cases hlt : k < l.length
    · obtain ⟨g, off, rfl, hg, x1⟩ := ints_at HL.out hlt
      obtain ⟨g', off', rfl, hg', x2⟩ := ints_at HL'.out hlt
      generalize l[k] = z at *
      go_wp2_with fail
      go_quiet (fail)
      go_wp2_with fail
      go_roundw
      case rel => exact ⟨k + 1, _, by omega, by go_num, rfl⟩
      case measure => simp [intOf]; omega
    · obtain rfl : k = l.length := by omega
      go_wp2_with fail
      go_ret
      exact ⟨rfl, _, rfl⟩
theorem ints_q {F G : Nat → Prop} {w : World} {v v' : Value} {l : List Int} (hl : IntsIn F w v l) (hl' : IntsIn G w v' l) (n : Nat) :
    Calls Tryd.prog 53 #[v, v'] (w.drewN n) fun e w'' => e = .returned (.bool true) ∧ ∃ m, w'' = w.drewN m :=
  Calls.quiet_of (ints_quiet (hl.frame (F' := F) (fun _ h => h) (fun _ _ _ => rfl)) (hl'.frame (F' := G) (fun _ h => h) (fun _ _ _ => rfl)))
set_option maxRecDepth 100000 in
set_option maxHeartbeats 4000000 in
theorem boolsR_yes {F G : Nat → Prop} {w : World} {v v' : Value} {l : List Bool} (hl : BoolsIn F w v l) (hl' : BoolsIn G w v' l) (hF : ∀ g, F g → g < w.heap.size) (hG : ∀ g, G g → g < w.heap.size) :
    Calls Tryd.prog 56 #[v, v'] w fun e w' => e = .returned (.bool true) ∧ Below w.heap.size w w' := by
  have HL := hid hl
  have HL' := hid hl'
  have HF := hid hF
  have HG := hid hG
  obtain ⟨ad, cp, rfl, hm, _⟩ := hl
  obtain ⟨ad', cp', rfl, hm', _⟩ := hl'
  unfold maxLen at hm hm'
  clear hF hG
  go_enter Tryd.func56, Tryd.ntmps56
  go_wp2_with fail
  go_loopw [5] (fun i wr => ∃ k : Nat, k ≤ l.length ∧ i = .int .i64 k ∧ Below w.heap.size w wr) (fun i _ => l.length - (intOf i).toNat)
  case atStart => exact ⟨0, Nat.zero_le _, rfl, Below.refl _ _⟩
  case round =>
    obtain ⟨k, hk, rfl, hb⟩ := hrel
    have HB := hid hb
    clear hb
    by_cases hlt : k < l.length
    · obtain ⟨g, off, rfl, hg, x1⟩ := bools_at (HL.out.frame (F' := F) (w' := wr) (fun _ h => h) (fun g hg _ => HB.out.block g (HF.out g hg))) hlt
      obtain ⟨g', off', rfl, hg', x2⟩ := bools_at (HL'.out.frame (F' := G) (w' := wr) (fun _ h => h) (fun g hg _ => HB.out.block g (HG.out g hg))) hlt
      generalize l[k] = z at *
      cases z
      all_goals go_wp2_with fail
      all_goals go_quiet (fail)
      all_goals go_wp2_with fail
      all_goals go_roundw
      all_goals first
        | (case rel => exact ⟨k + 1, by omega, by go_num, below_drewN HB.out _⟩)
        | (case measure => simp [intOf]; omega)
    · obtain rfl : k = l.length := by omega
      go_wp2_with fail
      go_ret
      exact ⟨rfl, HB.out⟩
set_option maxRecDepth 100000 in
set_option maxHeartbeats 8000000 in
theorem dsame_yes {F G : Nat → Prop} {w : World} {a b c a' b' c' : Value} {d : Dfa} (hd : DfaIn F w a b c d) (hd' : DfaIn G w a' b' c' d) (hF : ∀ g, F g → g < w.heap.size) (hG : ∀ g, G g → g < w.heap.size) :
    Calls Tryd.prog 16 #[.agg #[a, b, c], .agg #[a', b', c']] w fun e w' => e = .returned (.bool true) ∧ Below w.heap.size w w' := by
  obtain ⟨W0, hW0⟩ : ∃ W0, W0 = (w.alloc (.cells #[a, b, c] 30)).alloc (.cells #[a', b', c'] 30) := ⟨_, rfl⟩
  have hA0 : W0.heap[w.heap.size]? = some (.cells #[a, b, c] 30 (0, 0)) := by rw [hW0]; exact (alloc_old (by simp)).trans (heap_alloc_new _ _)
  have hR0 : W0.heap[w.heap.size + 1]? = some (.cells #[a', b', c'] 30 (0, 0)) := by rw [hW0]; exact newB _ _ _
  have hB0 : Below w.heap.size w W0 := by rw [hW0]; exact ((Below.refl _ _).alloc (Nat.le_refl _) _).alloc (by simp) _
  have hz0 : W0.heap.size = w.heap.size + 2 := by rw [hW0]; simp
  have HB := hid (fun (W : World) (h : Below (w.heap.size + 2) W0 W) => hB0.trans (h.mono (by omega)))
  have HD := hid (fun (W : World) (h : Below (w.heap.size + 2) W0 W) => (show DfaIn F W a b c d from hd.frame (fun _ h => h) (fun g hg _ => (HB.out W h).block g (hF g hg))))
  have HD' := hid (fun (W : World) (h : Below (w.heap.size + 2) W0 W) => (show DfaIn G W a' b' c' d from hd'.frame (fun _ h => h) (fun g hg _ => (HB.out W h).block g (hG g hg))))
  have HF := hid (fun (W : World) (h : Below (w.heap.size + 2) W0 W) (g : Nat) (hg : F g) => (show g < W.heap.size from Nat.lt_of_lt_of_le (hF g hg) (HB.out W h).size))
  have HG := hid (fun (W : World) (h : Below (w.heap.size + 2) W0 W) (g : Nat) (hg : G g) => (show g < W.heap.size from Nat.lt_of_lt_of_le (hG g hg) (HB.out W h).size))
  have HX := hid (fun (W : World) (h : Below (w.heap.size + 2) W0 W) => dcells ((h.block w.heap.size (by omega)).trans hA0))
  have HY := hid (fun (W : World) (h : Below (w.heap.size + 2) W0 W) => dcells ((h.block (w.heap.size + 1) (by omega)).trans hR0))
  have HTH := hid (fun (W W' : World) (h : Below (w.heap.size + 2) W0 W) (h' : Below W.heap.size W W') => h.trans (h'.mono (by have := h.size; omega)))
  obtain ⟨ada, cpa, rfl, hma, _⟩ := hd.cls
  obtain ⟨adb, cpb, rfl, hmb, _⟩ := hd.next
  obtain ⟨adc, cpc, rfl, hmc, _⟩ := hd.fin
  obtain ⟨ada', cpa', rfl, hma', _⟩ := hd'.cls
  obtain ⟨adb', cpb', rfl, hmb', _⟩ := hd'.next
  obtain ⟨adc', cpc', rfl, hmc', _⟩ := hd'.fin
  unfold maxLen at hma hmb hmc hma' hmb' hmc'
  have HW0 := hid hW0
  clear hd hd' hF hG hA0 hR0 hB0 hW0 hz0
  obtain ⟨q0, q1, q2⟩ := HX.out W0 (Below.refl _ _)
  obtain ⟨r0, r1, r2⟩ := HY.out W0 (Below.refl _ _)
  go_enter Tryd.func16, Tryd.ntmps16
  go_upto_region 1 with fail
  rw [← HW0.out]
  go_wp2_with fail
  refine (ints_yes (HD.out W0 (Below.refl _ _)).cls (HD'.out W0 (Below.refl _ _)).cls (HF.out W0 (Below.refl _ _)) (HG.out W0 (Below.refl _ _))).mono ?_
  rintro e w1 ⟨rfl, hb1⟩
  have H1 := hid (HTH.out _ _ (Below.refl _ _) hb1)
  clear q0 q1 q2 r0 r1 r2 hb1
  obtain ⟨q0, q1, q2⟩ := HX.out w1 H1.out
  obtain ⟨r0, r1, r2⟩ := HY.out w1 H1.out
  go_wp2_with fail
  refine (boolsR_yes (HD.out w1 H1.out).fin (HD'.out w1 H1.out).fin (HF.out w1 H1.out) (HG.out w1 H1.out)).mono ?_
  rintro e w2 ⟨rfl, hb2⟩
  have H2 := hid (HTH.out _ _ H1.out hb2)
  clear q0 q1 q2 r0 r1 r2 hb2
  obtain ⟨q0, q1, q2⟩ := HX.out w2 H2.out
  obtain ⟨r0, r1, r2⟩ := HY.out w2 H2.out
  go_wp2_with fail
  go_loopw [5] (fun i wr => ∃ k : Nat, k ≤ d.next.length ∧ i = .int .i64 k ∧ Below (w.heap.size + 2) W0 wr) (fun i _ => d.next.length - (intOf i).toNat)
  case atStart => exact ⟨0, Nat.zero_le _, rfl, H2.out⟩
  case round =>
    clear q0 q1 q2 r0 r1 r2
    obtain ⟨k, hk, rfl, hb⟩ := hrel
    have HBK := hid hb
    clear hb
    obtain ⟨q0, q1, q2⟩ := HX.out wr HBK.out
    obtain ⟨r0, r1, r2⟩ := HY.out wr HBK.out
    by_cases hlt : k < d.next.length
    · obtain ⟨g, off, v, rfl, hg, x0, hv⟩ := rows_at (HD.out wr HBK.out).next hlt
      obtain ⟨g', off', v', rfl, hg', y0, hv'⟩ := rows_at (HD'.out wr HBK.out).next hlt
      have HIQ := hid (fun n => ints_q hv hv' n)
      clear hv hv'
      go_wp2_with fail
      go_quiet ((go_at_call 53; exact HIQ.out _))
      go_wp2_with fail
      go_roundw
      case rel => exact ⟨k + 1, by omega, by go_num, below_drewN HBK.out _⟩
      case measure => simp [intOf]; omega
    · obtain rfl : k = d.next.length := by omega
      go_wp2_with fail
      go_ret
      exact ⟨rfl, HB.out _ HBK.out⟩
end Go.Proofs.YtfjomnhdmkbkiaaDoor.Im
