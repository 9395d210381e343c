/-
  The contract of dfa.behind.
-/
import Derived.Test.YtfjomnhdmkbkiaaDoorDfN
import Derived.Test.YtfjomnhdmkbkiaaDoorDfG
namespace Go.Proofs.YtfjomnhdmkbkiaaDoor.Im
open Go.RowKit Go.Lib

abbrev FromIn (F : Nat → Prop) (w : World) : Value → List (List Edge) → Prop := Row F w (EdgesIn F w)
theorem FromIn.frame {F F' : Nat → Prop} {w w' : World} {v : Value} {l : List (List Edge)} (h : FromIn F w v l) (hF : ∀ g, F g → F' g) (hw : ∀ g, F g → g < w.heap.size → w'.heap[g]? = w.heap[g]?) : FromIn F' w' v l := Row.frame h hF hw fun _ _ _ h => EdgesIn.frame h hF hw
theorem from_at {F : Nat → Prop} {w : World} {ad : Option Addr} {n cap : Nat} {l : List (List Edge)} (h : FromIn F w (.slice ad n cap) l) {i : Nat} (hi : i < l.length) : ∃ g off c, ad = some ⟨g, off, none⟩ ∧ F g ∧ w.cell? ⟨g, off + i, none⟩ = some c ∧ EdgesIn F w c l[i] := by
  obtain ⟨ad', cap', e, _, h⟩ := h
  cases e
  obtain ⟨g, off, rfl, hg, h⟩ := h (by intro e; subst e; simp at hi)
  obtain ⟨c, hc, hr⟩ := h i hi
  exact ⟨g, off, c, rfl, hg, hc, hr⟩
theorem first_lt256 (s : Se) : (firstS s).getD 0 < 256 := by
  cases h : firstS s with
  | none => simp
  | some b => have := first_lt s 256 0 b h; simp; omega
theorem first_get {s : Se} (hs : s.ok) (w : World) (hT : Tab w) :
    Calls Tryd.prog 74 #[s.v] w fun e w' => e = .returned (.tuple #[.int .u8 ((firstS s).getD 0 : Nat), .bool (firstS s).isSome]) ∧ Below w.heap.size w w' :=
  (first_any s hs w hT).mono fun e w' ⟨h1, h2⟩ => ⟨by rw [h1, firstW_eq hs], h2⟩
/-- what stands behind one state -/
def outs (fl : List (List Edge)) (b : Nat) (x : Int) : List Int := ((fl.getD x.toNat []).filter fun e => hasS e.st b).map Edge.dst
def outsAll (fl : List (List Edge)) (b : Nat) (row : List Int) : List Int := row.flatMap (outs fl b)
theorem outsAll_snoc (fl : List (List Edge)) (b : Nat) (l : List Int) (x : Int) : outsAll fl b (l ++ [x]) = outsAll fl b l ++ outs fl b x := by unfold outsAll; simp
def outsTo (es : List Edge) (b j : Nat) : List Int := ((es.take j).filter fun e => hasS e.st b).map Edge.dst
theorem outsTo_yes {es : List Edge} {b j : Nat} (hj : j < es.length) (h : hasS es[j].st b = true) : outsTo es b (j + 1) = outsTo es b j ++ [es[j].dst] := by
  unfold outsTo; rw [take_succ' _ _ hj, List.filter_append, List.map_append]; simp [h]
theorem outsTo_no {es : List Edge} {b j : Nat} (hj : j < es.length) (h : hasS es[j].st b = false) : outsTo es b (j + 1) = outsTo es b j := by
  unfold outsTo; rw [take_succ' _ _ hj, List.filter_append, List.map_append]; simp [h]
set_option maxRecDepth 100000 in
set_option maxHeartbeats 4000000 in
theorem behind_any {F : Nat → Prop} {w : World} {vf vr : Value} {fl : List (List Edge)} {row : List Int} {s : Se} (hf : FromIn F w vf fl) (hr : IntsIn F w vr row) (hF : ∀ g, F g → g < w.heap.size) (hs : s.ok) (hT : Tab w)
    (hrow : ∀ x ∈ row, 0 ≤ x ∧ x < (fl.length : Int)) (hfl : ∀ es ∈ fl, es.length ≤ 65536) (hrl : row.length ≤ 100000) :
    Calls Tryd.prog 46 #[vf, vr, s.v] w (ClonePost w (outsAll fl ((firstS s).getD 0) row)) := by
  have HFR := hid hf
  have HR := hid hr
  have HROW := hid hrow
  have HFL := hid hfl
  have hcall := first_get hs (w.alloc (.cells s.cs 65)) (hT.alloc _)
  obtain ⟨b, hb⟩ : ∃ b, b = (firstS s).getD 0 := ⟨_, rfl⟩
  have hb256 : b < 256 := by rw [hb]; exact first_lt256 s
  rw [← hb] at hcall ⊢
  obtain ⟨adf, cpf, rfl, hmf, _⟩ := hf
  obtain ⟨adr, cpr, rfl, hmr, _⟩ := hr
  unfold maxLen at hmf hmr
  have HKB := hid (show (UInt8.ofNat b).toNat = b by simp; omega)
  obtain ⟨i0, hi, hz0, hz1, hz2⟩ := info_parts infoI
  have HI := hid hi
  have HZ := hid (And.intro hz0 (And.intro hz1 hz2))
  have hB0 := (Below.refl w.heap.size w).alloc (Nat.le_refl _) (.cells s.cs 65)
  clear hi hz0 hz1 hz2 hs hT hrow hfl hb
  go_enter Tryd.func46, Tryd.ntmps46
  go_wp2_with (go_at_call 74; refine hcall.mono ?_; rintro e w1 ⟨rfl, hb1⟩)
  have HB1 := hid (hB0.trans (hb1.mono (by simp)))
  clear hB0 hb1 hcall
  go_loopw [9, 21] (fun p i wr => ∃ (k : Nat) (out : List Int), k ≤ row.length ∧ i = .int .i64 k ∧ out.length ≤ k * 65536 ∧ wr.ownsRow w.heap.size 3 1 p out.length (out.map iV) ∧ Hid (out = outsAll fl b (row.take k)) ∧ Below w.heap.size w wr) (fun _ i _ => row.length - (intOf i).toNat)
  case atStart => exact ⟨0, [], Nat.zero_le _, rfl, Nat.zero_le _, World.ownsRow_nil _ _ _ _, rfl, HB1.out⟩
  case round =>
    clear HB1
    obtain ⟨k, out, hk, rfl, hol, hown, hout, hbel⟩ := hrel
    obtain ⟨adp, cpp, rfl⟩ := own_shape hown
    have HO := hid hown
    clear hown
    by_cases hlt : k < row.length
    · obtain ⟨gr, offr, rfl, hFr, hx⟩ := ints_at (HR.out.frame (w' := wr) (F' := F) (fun _ h => h) (fun q hq _ => hbel.block q (hF q hq))) hlt
      obtain ⟨x0, hx0⟩ := HROW.out row[k] (List.getElem_mem hlt)
      have HTK := hid (show outsAll fl b (row.take (k + 1)) = outsAll fl b (row.take k) ++ outs fl b row[k] by rw [take_succ' _ _ hlt, outsAll_snoc])
      obtain ⟨x, hxx⟩ : ∃ x, x = row[k] := ⟨_, rfl⟩
      rw [← hxx] at hx x0 hx0 HTK
      obtain ⟨m, rfl⟩ := Int.eq_ofNat_of_zero_le x0
      have hm : m < fl.length := by omega
      obtain ⟨gf, offf, c, rfl, hFf, hc, hce⟩ := from_at (FromIn.frame HFR.out (w' := wr) (F' := F) (fun _ h => h) (fun q hq _ => hbel.block q (hF q hq))) hm
      have hel := HFL.out fl[m] (List.getElem_mem hm)
      have HOUT := hid (show outs fl b (m : Int) = outsTo fl[m] b fl[m].length by unfold outs outsTo; rw [Int.toNat_natCast, List.getD_eq_getElem?_getD, List.getElem?_eq_getElem hm, List.take_length]; rfl)
      obtain ⟨es, hes⟩ : ∃ es, es = fl[m] := ⟨_, rfl⟩
      rw [← hes] at hce hel HOUT
      have HCE := hid hce
      obtain ⟨ade, cpe, rfl, _, _⟩ := hce
      have hbel' := hbel
      clear hxx hes hx0
      obtain ⟨wo, rfl⟩ : ∃ wo : World, wo = wr := ⟨_, rfl⟩
      go_wp2_with fail
      go_loopw [9, 30] (fun p i wr => ∃ (j : Nat) (out' : List Int), j ≤ es.length ∧ i = .int .i64 j ∧ out'.length ≤ k * 65536 + j ∧ wr.ownsRow w.heap.size 3 1 p out'.length (out'.map iV) ∧ Hid (out' = out ++ outsTo es b j) ∧ Below w.heap.size w wr ∧ Hid (Below w.heap.size wo wr)) (fun _ i _ => es.length - (intOf i).toNat)
      case atStart => exact ⟨0, out, Nat.zero_le _, rfl, Nat.le_trans hol (Nat.le_add_right _ _), HO.out, hid (by simp [outsTo]), hbel, hid (Below.refl _ _)⟩
      case round =>
        clear HO hbel hx hc
        obtain ⟨j, out', hj, rfl, hol', hown, hout', hbel, hwo⟩ := hrel
        obtain ⟨adp, cpp, rfl⟩ := own_shape hown
        have HO := hid hown
        clear hown
        by_cases hltj : j < es.length
        · obtain ⟨g, off, rfl, hFg, c0, c1, c2, c3, c4, c5⟩ := (EdgesIn.frame HCE.out (w' := wr) (F' := F) (fun _ h => h) (fun q hq _ => hwo.out.block q (hF q hq))).at' hltj
          have hyes := outsTo_yes (b := b) hltj
          have hnot := outsTo_no (b := b) hltj
          obtain ⟨e, he⟩ : ∃ e, e = es[j] := ⟨_, rfl⟩
          rw [← he] at c0 c1 c2 c3 c4 c5 hyes hnot
          have hws := hwo.out.size
          have hzz := hbel.size
          rcases Bool.eq_false_or_eq_true (hasS e.st b) with hh | hh
          · have hcall := has_yes (c := UInt8.ofNat b) (by rw [HKB.out]; exact hh)
            rw [HKB.out] at hcall
            have HY := hid (hyes hh)
            clear hyes hnot hh he
            go_wp2_with (first | (go_at_call 63; refine (hcall _).mono ?_; rintro e' w3 ⟨rfl, hb3⟩; have HO3 := hid (own_after HO.out hb3); have hblk := blk_edge01 ((hb3.block wr.heap.size (lt_alloc wr _)).trans (heap_alloc_new wr (.cells e.cs 67))); have d1 := hblk.2; have hz3 := hb3.size; clear hblk) | (at_builtin; refine wpList_append_own _ rfl _ _ 22 rfl w.heap.size 3 i0 (.int .i64 0) 1 8 Tryd.underlying22 HI.out HZ.out.1 HZ.out.2.1 HZ.out.2.2 rfl (by decide) _ _ _ rfl (HO3.out.alloc _) ⟨w3.heap.size, 0, none⟩ 1 1 [iV e.dst] rfl rfl (one_at (heap_alloc_new _ _)) (one_cell_one rfl) (by unfold maxLen; omega) (by omega) (by simp at hz3 ⊢; omega) ?_; intro v' w4 hown4 hgrow4 _; have HG4 := hid hgrow4; have HO4 := hid hown4; clear hown4 hgrow4))
            have hg4 := show World.grownBy (w3.alloc (.cells #[.int .i64 e.dst] 3)) w4 (Value.slice adp out'.length cpp).ownBlock from HG4.out
            have hbe : Below w.heap.size w w3 := (hbel.alloc hzz _).trans (hb3.mono (by simp; omega))
            have hx4 : ∀ B w', B ≤ w.heap.size → Below B w' w3 → Below B w' w4 := fun B w' hB h => (h.alloc (by have := hbe.size; omega) _).grown hg4 (by have := hbe.size; simp; omega) (fun q hq => by have := (HO3.out.lt q hq).1; omega)
            go_roundw
            case rel => exact ⟨j + 1, out' ++ [e.dst], by omega, by go_num, by simp; omega, by rw [List.length_append, List.map_append]; exact HO4.out, hid (by rw [hout'.out, HY.out, List.append_assoc]), hx4 _ _ (Nat.le_refl _) hbe, hid (hx4 _ _ (Nat.le_refl _) ((hwo.out.alloc (by omega) _).trans (hb3.mono (by simp; omega))))⟩
            case measure => simp [intOf]; omega
          · have hcall := has_not (c := UInt8.ofNat b) (by rw [HKB.out]; exact hh)
            rw [HKB.out] at hcall
            have HY := hid (hnot hh)
            clear hyes hnot hh he
            go_wp2_with (go_at_call 63; refine (hcall _).mono ?_; rintro e' w3 ⟨rfl, hb3⟩; have HO3 := hid (own_after HO.out hb3))
            go_roundw
            case rel => exact ⟨j + 1, out', by omega, by go_num, by omega, HO3.out, hid (by rw [hout'.out, HY.out]), (hbel.alloc hzz _).trans (hb3.mono (by simp; omega)), hid ((hwo.out.alloc (by omega) _).trans (hb3.mono (by simp; omega)))⟩
            case measure => simp [intOf]; omega
        · obtain rfl : j = es.length := by omega
          have HE := hid (show out' = outsAll fl b (row.take (k + 1)) by rw [HTK.out, HOUT.out, hout'.out, hout.out])
          go_wp2
          refine And.intro ?_ ?_
          · exact ⟨k + 1, out', by omega, by go_num, by omega, HO.out, HE, hbel⟩
          · simp [intOf]; omega
    · obtain rfl : k = row.length := by omega
      have HE := hid (show outsAll fl b row = out by rw [hout.out, List.take_length])
      go_wp2
      go_ret
      rw [HE.out]
      exact ⟨_, rfl, HO.out, hbel⟩
end Go.Proofs.YtfjomnhdmkbkiaaDoor.Im
