/-
  The references' automatons: whittleref02.Sets, whittleref11.Right.
-/
import Derived.Test.YtfjomnhdmkbkiaaDoorDgN
import Derived.Test.YtfjomnhdmkbkiaaDoorDfD
import Derived.Test.YtfjomnhdmkbkiaaDoorDgA
namespace Go.Proofs.YtfjomnhdmkbkiaaDoor.Im
open Go.RowKit Go.Lib

/-- some set -/
def SomeSe (w : World) (e : Ending) (w' : World) : Prop := (∃ s : Se, e = .returned s.v) ∧ Below w.heap.size w w'
theorem makeR_any {F : Nat → Prop} {w : World} {v : Value} {l : List Bool} (hl : BoolsIn F w v l) (h256 : l.length = 256) (hF : ∀ g, F g → g < w.heap.size) :
    Calls Tryd.prog 60 #[v] w (SomeSe w) :=
  (makeR_is hl h256 hF).mono fun _ _ ⟨⟨s, h, _⟩, hb⟩ => ⟨⟨s, h⟩, hb⟩
theorem cells_new (w : World) (cs : Array Value) (T : TypeId) (j : Nat) (h : j < cs.size) : (w.alloc (.cells cs T)).cell? ⟨w.heap.size, 0 + j, none⟩ = some cs[j] := by
  rw [Nat.zero_add]
  exact (cell_of_row _ _ j _ _ _ (heap_alloc_new w _)).trans (Array.getElem?_eq_getElem h)
theorem bool_eq {a b : Bool} (h : a = b) : Ending.returned (.bool a) = .returned (.bool b) := by rw [h]
theorem row_at_new (w : World) (cs : Array Value) (T : TypeId) (j : Nat) (u : Value) (hu : cs.toList[j]? = some u) : (w.alloc (.cells cs T)).cell? ((⟨w.heap.size, 0, none⟩ : Addr).add j) = some u := by
  rw [Addr.add_lit]
  rw [Array.getElem?_toList] at hu
  obtain ⟨hj, rfl⟩ := Array.getElem?_eq_some_iff.1 hu
  exact cells_new w cs T j hj
theorem infoBoolR : (Tryd.prog.info? 4).map (fun i => (i.zero, i.size, i.bytes)) = some (some (.bool false), 1, 1) := by kernel_rfl
/-- a row of truths of the call's own -/
abbrev BRow (w : World) (base g n : Nat) (l : List Bool) : Prop := w.ownsRow base 4 1 (.slice (some ⟨g, 0, none⟩) n n) n (l.map Value.bool)
theorem brow_made {w : World} {base g n : Nat} (h : w.ownsRow base 4 1 (.slice (some ⟨g, 0, none⟩) n n) n (madeCells (Value.bool false).cells (n * 1)).toList) : BRow w base g n (List.replicate n false) := by
  rw [made_rep (.bool false) n rfl] at h
  show World.ownsRow _ _ _ _ _ _ _
  rw [List.map_replicate]
  exact h
theorem BRow.bools {w : World} {base g n : Nat} {l : List Bool} (h : BRow w base g n l) (hn : l.length = n) : BoolsIn (fun q => q < w.heap.size) w (.slice (some ⟨g, 0, none⟩) n n) l := by
  subst hn
  rcases h.2 with ⟨hv, _⟩ | ⟨g', cap, cur, hv, hb, hg, hl, hc, hs, ht⟩
  · cases hv
  · cases hv
    exact ⟨_, _, rfl, hc, fun _ => ⟨g, 0, rfl, lt_of_heap hg, fun i hi => ⟨.bool l[i], by rw [Nat.zero_add, h.cellAt i (by omega), List.getElem?_map, List.getElem?_eq_getElem hi]; rfl, rfl⟩⟩⟩
theorem BRow.cell {w : World} {base g n : Nat} {l : List Bool} (h : BRow w base g n l) {i : Nat} (hi : i < l.length) (hn : l.length = n) : w.cell? ⟨g, i, none⟩ = some (.bool l[i]) := by
  rw [h.cellAt i (by omega), List.getElem?_map, List.getElem?_eq_getElem hi]; rfl
theorem BRow.set {w : World} {base g n : Nat} {l : List Bool} (h : BRow w base g n l) (i : Nat) (b : Bool) : BRow (w.setCell ⟨g, i, none⟩ (.bool b)) base g n (l.set i b) := by
  show World.ownsRow _ _ _ _ _ _ _
  rw [List.map_set]
  exact own_store (i := i) (.bool b) h
/-- what the reference's Sets hands back: so many sets -/
def SetsRPost (l : List Int) (w : World) (e : Ending) (w' : World) : Prop :=
  Below w.heap.size w w' ∧ (match partsOf l with
    | none => e = .returned (.tuple #[.slice none 0 0, .int .i64 1])
    | some m => ∃ ad cap, e = .returned (.tuple #[.slice ad m cap, .int .i64 0]) ∧ m ≤ 256)
theorem parts_le : ∀ (l : List Int) (n m : Nat), parts n l = some m → m ≤ n + l.length
  | [], n, m, h => by cases h; simp
  | c :: l, n, m, h => by
    unfold parts at h
    split at h
    · cases h
    · split at h
      · have := parts_le l _ _ h; simp; omega
      · have := parts_le l _ _ h; simp; omega
theorem se_cells (u : Se) : ∀ v ∈ u.cs.toList, v.oneCell' = true := by
  intro v hv
  simp at hv
  rcases hv with rfl | rfl | rfl | rfl <;> rfl

set_option maxRecDepth 100000 in
set_option maxHeartbeats 4000000 in
theorem setsR_any {F : Nat → Prop} {w : World} {v : Value} {l : List Int} (hl : IntsIn F w v l) (hF : ∀ g, F g → g < w.heap.size) :
    Calls Tryd.prog 69 #[v] w (SetsRPost l w) := by
  obtain ⟨ad, cp, rfl, hm, hr⟩ := hl
  unfold maxLen at hm
  have HR := hid hr
  have HFF := hid hF
  clear hr hF
  by_cases h256 : l.length = 256
  · have hb256 : ((l.length : Int) != 256) = false := by simp [h256]
    have HP := hid (show parts 0 (l.drop 0) = partsOf l by unfold partsOf; rw [if_pos h256]; rfl)
    have hl1 : l.length ≤ 256 := by omega
    have hl2 : 256 ≤ l.length := by omega
    clear h256
    obtain ⟨i0, hi, hz0, hz1, hz2⟩ := info_parts infoSet
    have HI := hid hi
    have HZ := hid (And.intro hz0 (And.intro hz1 hz2))
    clear hi hz0 hz1 hz2
    obtain ⟨j0, hj, hy0, hy1, hy2⟩ := info_parts infoBoolR
    have HJ := hid hj
    have HY := hid (And.intro hy0 (And.intro hy1 hy2))
    clear hj hy0 hy1 hy2
    go_enter Tryd.func69, Tryd.ntmps69
    go_wp2
    clear hb256
    go_loop [4, 5] (fun mv i => ∃ (k n : Nat) (mi : Int), k ≤ 256 ∧ n ≤ k ∧ mv = .int .i64 mi ∧ i = .int .i64 k ∧ -1 ≤ mi ∧ mi ≤ 255 ∧ Hid (mi = (n : Int) - 1) ∧ Hid (parts n (l.drop k) = partsOf l)) (fun _ i => 256 - (intOf i).toNat)
    case atStart => exact ⟨0, 0, -1, by omega, by omega, rfl, rfl, by omega, by omega, hid (by omega), HP⟩
    case round =>
      obtain ⟨k, n, mi, hk, hn, rfl, rfl, hm1, hm2, HM, HQ⟩ := hrel
      by_cases hlt : k < 256
      · have hlt' : k < l.length := by omega
        obtain ⟨g, off, rfl, _, x, hx, rfl⟩ := HR.out.at' hlt'
        have hp := HQ.out
        rw [drop_cons' l k hlt'] at hp
        unfold parts at hp
        by_cases hneg : l[k] < 0
        · rw [if_pos (.inl hneg)] at hp
          have HN := hid hp.symm
          clear hp
          go_wp2
          go_ret2
          unfold SetsRPost
          rw [HN.out]
          exact ⟨Below.refl _ _, rfl⟩
        · by_cases hgt : mi + 1 < l[k]
          · rw [if_pos (.inr (by have := HM.out; omega))] at hp
            have HN := hid hp.symm
            clear hp
            go_wp2
            go_ret2
            unfold SetsRPost
            rw [HN.out]
            exact ⟨Below.refl _ _, rfl⟩
          · rw [if_neg (by have := HM.out; omega)] at hp
            have HPP := hid hp
            clear hp
            go_wp2
            go_round
            case rel =>
              by_cases hc : l[k] = (n : Int)
              · have h := HPP.out
                rw [if_pos hc] at h
                exact ⟨k + 1, n + 1, _, by omega, by omega, rfl, by go_num, by have := HM.out; first | omega | (split <;> omega), by have := HM.out; first | omega | (split <;> omega), hid (by have := HM.out; first | omega | (split <;> omega)), hid h⟩
              · have h := HPP.out
                rw [if_neg hc] at h
                exact ⟨k + 1, n, _, by omega, by omega, rfl, by go_num, by have := HM.out; first | omega | (split <;> omega), by have := HM.out; first | omega | (split <;> omega), hid (by have := HM.out; first | omega | (split <;> omega)), hid h⟩
            case measure => simp [intOf]; omega
      · obtain rfl : k = 256 := by omega
        have HN := hid (show partsOf l = some n by have h := HQ.out; rw [List.drop_eq_nil_of_le (by omega)] at h; exact h.symm)
        clear HQ
        go_wp2
        go_loopw [6, 7] (fun p i wr => ∃ (k : Nat) (ss : List Se), ss.length = k ∧ (k : Int) ≤ mi + 1 ∧ i = .int .i64 k ∧ wr.ownsRow w.heap.size 65 4 p k (flat ss) ∧ Below w.heap.size w wr) (fun _ i _ => (mi + 1 - intOf i).toNat)
        case atStart => exact ⟨0, [], rfl, by omega, rfl, World.ownsRow_nil _ _ _ _, Below.refl _ _⟩
        case round =>
          obtain ⟨k, ss, hsk, hkm, rfl, hown, hbel⟩ := hrel
          obtain ⟨adp, cpp, rfl⟩ := own_shape hown
          have HSK := hid hsk
          have HO := hid hown
          have hsz := hbel.size
          clear hsk hown
          by_cases hle : (k : Int) ≤ mi
          · go_upto_region 15 with (refine wpList_make_full _ rfl _ _ 28 rfl wr.heap.size 4 j0 (.bool false) 1 Tryd.underlying28 HJ.out HY.out.1 HY.out.2.1 .i64 .i64 256 256 256 rfl rfl rfl rfl (by rw [HY.out.2.2]; decide) (by unfold maxLen; omega) (Nat.le_refl _) ?_; intro w2 hown2 hgrow2; have HO2 := hid hown2; have HG2 := hid hgrow2; clear hown2 hgrow2)
            have hb2 : Below wr.heap.size wr w2 := (Below.refl _ wr).grown HG2.out (Nat.le_refl _) (fun q hq => by cases hq)
            have hR2 : BRow w2 wr.heap.size wr.heap.size 256 (List.replicate 256 false) := brow_made HO2.out
            have HB2 := hid hb2
            have HR2 := hid hR2
            clear HO2 HG2 hb2 hR2
            obtain ⟨wo, rfl⟩ : ∃ wo : World, wo = wr := ⟨_, rfl⟩
            go_wp2
            go_loopw [9] (fun i wx => ∃ (j : Nat) (lb : List Bool), j ≤ 256 ∧ i = .int .i64 j ∧ Hid (lb.length = 256) ∧ BRow wx wo.heap.size wo.heap.size 256 lb ∧ Below wo.heap.size wo wx) (fun i _ => 256 - (intOf i).toNat)
            case atStart => exact ⟨0, _, by omega, rfl, hid (by simp), HR2.out, HB2.out⟩
            case round =>
              obtain ⟨j, lb, hj, rfl, HLB, hbr, hbx⟩ := hrel
              have HBR := hid hbr
              have hbx0 := hbel.trans (hbx.mono hsz)
              clear hbr
              by_cases hjlt : j < 256
              · have hjl : j < l.length := by omega
                obtain ⟨g, off, rfl, _, x, hx, rfl⟩ := (HR.out.frame (w' := wr) (F' := F) (fun _ h => h) (fun q hq _ => hbx0.block q (HFF.out q hq)) (R' := IntR) (fun _ _ _ h => h)).at' hjl
                have hcl := HBR.out.cell (i := j) (by have := HLB.out; omega) HLB.out
                have hfr := own_free (i := j) HBR.out
                go_wp2
                go_roundw
                case rel => exact ⟨j + 1, lb.set j _, by omega, by go_num, hid (by rw [List.length_set]; exact HLB.out), HBR.out.set j _, hbx.setCell (Nat.le_refl _) _⟩
                case measure => simp [intOf]; omega
              · have hBI := hid (HBR.out.bools HLB.out)
                have HO2 := hid (own_below HO.out hbx (Nat.le_refl _))
                have hwx := hbx.size
                go_wp2_with fail
                refine (makeR_any hBI.out HLB.out (fun g hg => hg)).mono ?_
                rintro e w3 ⟨⟨u, rfl⟩, hb3⟩
                have HO3 := hid (own_later HO2.out hb3)
                have hb30 := hbx0.trans (hb3.mono (by omega))
                have hs3 := hb30.size
                go_wp2_with (at_builtin; refine wpList_append_own _ rfl _ _ 56 rfl w.heap.size 65 i0 _ 4 32 Tryd.underlying56 HI.out HZ.out.1 HZ.out.2.1 HZ.out.2.2 rfl (by decide) _ _ _ rfl (HO3.out.alloc _) ⟨w3.heap.size, 0, none⟩ 1 1 u.cs.toList rfl rfl (fun j u hu => row_at_new _ _ _ j u hu) (se_cells u) (by unfold maxLen; omega) (by omega) (by simp; omega) ?_)
                intro p' w4 hown4 hgrow4 _
                have HO4 := hid hown4
                have HB4 := hid ((hb30.alloc hs3 _).grown hgrow4 (by simp; omega) (fun q hq => (HO3.out.lt q hq).1))
                clear hown4 hgrow4
                go_wp2
                go_roundw
                case rel => exact ⟨k + 1, ss ++ [u], by rw [List.length_append, HSK.out]; rfl, by omega, by go_num, by rw [flat_snoc]; exact HO4.out, HB4.out⟩
                case measure => simp [intOf]; omega
          · have hkn : k = n := by have := HM.out; omega
            have HKN := hid hkn
            clear hkn
            go_wp2
            go_ret2
            unfold SetsRPost
            rw [HN.out]
            exact ⟨hbel, adp, cpp, by rw [HKN.out]; rfl, by omega⟩
  · have hb256 : ((l.length : Int) != 256) = true := by simp; omega
    have HN := hid (show partsOf l = none by unfold partsOf; rw [if_neg h256])
    clear h256
    go_enter Tryd.func69, Tryd.ntmps69
    go_wp2
    go_ret2
    unfold SetsRPost
    rw [HN.out]
    exact ⟨Below.refl _ _, rfl⟩
end Go.Proofs.YtfjomnhdmkbkiaaDoor.Im

namespace Go.Proofs.YtfjomnhdmkbkiaaDoor.Im
open Go.RowKit Go.Lib

theorem dfaOk_no {d : Dfa} (h : partsOf d.cls = none) : dfaOk d = false := by unfold dfaOk; rw [h]
theorem dfaOk_so {d : Dfa} {m : Nat} (h : partsOf d.cls = some m) : dfaOk d = (decide (1 ≤ d.next.length) && decide (d.next.length ≤ 1024) && decide (d.fin.length = d.next.length) && d.next.all (rowOk m d.next.length)) := by unfold dfaOk; rw [h]

set_option maxRecDepth 100000 in
set_option maxHeartbeats 4000000 in
theorem rightR_any {F : Nat → Prop} {w : World} {a b c : Value} {d : Dfa} (hd : DfaIn F w a b c d) (hF : ∀ g, F g → g < w.heap.size) :
    Calls Tryd.prog 57 #[.agg #[a, b, c]] w fun e w' => e = .returned (.bool (dfaOk d)) ∧ Below w.heap.size w w' := by
  obtain ⟨hd1, hd2, hd3⟩ := hd
  generalize hW0 : w.alloc (.cells #[a, b, c] 30) = W0
  have hDb : W0.heap[w.heap.size]? = some (.cells #[a, b, c] 30 (0, 0)) := by rw [← hW0]; exact heap_alloc_new _ _
  have old : ∀ g, F g → g < w.heap.size → W0.heap[g]? = w.heap[g]? := fun g _ hg => by rw [← hW0]; exact alloc_old hg
  have hz0 : W0.heap.size = w.heap.size + 1 := by rw [← hW0]; simp
  have hB0 : Below w.heap.size w W0 := by rw [← hW0]; exact (Below.refl _ _).alloc (Nat.le_refl _) _
  have hcl := hd1.frame (F' := F) (fun _ h => h) old
  have hF0 : ∀ g, F g → g < W0.heap.size := fun g hg => by have := hF g hg; omega
  obtain ⟨ad1, cp1, rfl, hm1, hr1⟩ := hd1
  obtain ⟨ad2, cp2, rfl, hm2, hr2⟩ := hd2
  obtain ⟨ad3, cp3, rfl, hm3, hr3⟩ := hd3
  have HDB := hid hDb
  have HW0 := hid hW0
  have HCL := hid hcl
  have HR2 := hid hr2
  clear hDb hW0 hcl hr1 hr2 hr3 old
  unfold maxLen at hm1 hm2 hm3
  obtain ⟨q0, q1, q2⟩ := dcells HDB.out
  go_enter Tryd.func57, Tryd.ntmps57
  go_wp2_with fail
  rw [HW0.out]
  refine (setsR_any HCL.out hF0).mono ?_
  rintro e w1 ⟨hb1, hp⟩
  obtain ⟨r0, r1, r2⟩ := dcells ((hb1.block w.heap.size (by omega)).trans HDB.out)
  have hB1 : Below w.heap.size w w1 := hB0.trans (hb1.mono (by omega))
  clear q0 q1 q2
  rcases hx : partsOf d.cls with _ | m
  · have hno := hid (dfaOk_no hx)
    rw [hx] at hp
    obtain rfl := hp
    clear hx
    go_wp2
    go_ret
    exact ⟨bool_eq hno.out.symm, hB1⟩
  · have HALL := hid (dfaOk_so hx)
    rw [hx] at hp
    obtain ⟨adp, cpp, rfl, hm256⟩ := hp
    clear hx
    by_cases hn1 : d.next.length < 1
    · have hno := hid (show dfaOk d = false by rw [HALL.out]; simp; omega)
      have hn1' : (d.next.length : Int) < 1 := by omega
      clear hn1
      go_wp2
      go_ret
      exact ⟨bool_eq hno.out.symm, hB1⟩
    · by_cases hn2 : 1024 < d.next.length
      · have hno := hid (show dfaOk d = false by rw [HALL.out]; simp; omega)
        have hn1' : ¬ (d.next.length : Int) < 1 := by omega
        have hn2' : (1024 : Int) < d.next.length := by omega
        clear hn1 hn2
        go_wp2
        go_ret
        exact ⟨bool_eq hno.out.symm, hB1⟩
      · by_cases hn3 : d.fin.length = d.next.length
        · have hn1' : ¬ (d.next.length : Int) < 1 := by omega
          have hn2' : ¬ (1024 : Int) < d.next.length := by omega
          have hn3' : ((d.fin.length : Int) != (d.next.length : Int)) = false := by simp [hn3]
          have HFIN := hid hn3
          clear hn3
          go_wp2_with fail
          have hok := hid (show dfaOk d = d.next.all (rowOk m d.next.length) by rw [HALL.out, HFIN.out]; simp; omega)
          clear hn3'
          go_loop [6] (fun v => ∃ k : Nat, k ≤ d.next.length ∧ v = .int .i64 k ∧ Hid ((d.next.take k).all (rowOk m d.next.length) = true)) (fun v => d.next.length - (intOf v).toNat)
          case atStart => exact ⟨0, Nat.zero_le _, rfl, hid (by simp)⟩
          case round =>
            obtain ⟨k, hk, rfl, hall⟩ := hrel
            by_cases hlt : k < d.next.length
            · obtain ⟨g, off, rfl, hFg, x, hx, hrow⟩ := (HR2.out.frame (w' := w1) (F' := F) (fun _ h => h) (fun q hq _ => hB1.block q (hF q hq)) (R' := IntsIn F w1) (fun _ _ _ h => IntsIn.frame h (fun _ h => h) (fun q hq _ => hB1.block q (hF q hq)))).at' hlt
              obtain ⟨adr, cpr, rfl, hmr, hrr⟩ := hrow
              unfold maxLen at hmr
              have HRR := hid hrr
              clear hrr
              have hki : (k : Int) < (d.next.length : Int) := by omega
              by_cases hlen : d.next[k].length = m
              · have hlen' : ((d.next[k].length : Int) != (m : Int)) = false := by simp [hlen]
                have HLEN := hid hlen
                have hle1 : d.next[k].length ≤ m := by omega
                have hle2 : m ≤ d.next[k].length := by omega
                clear hlen
                go_wp2_with fail
                clear hlen'
                go_loop [7] (fun v => ∃ j : Nat, j ≤ m ∧ v = .int .i64 j ∧ Hid ((d.next[k].take j).all (fun s => decide (0 ≤ s) && decide (s < d.next.length)) = true)) (fun v => m - (intOf v).toNat)
                case atStart => exact ⟨0, Nat.zero_le _, rfl, hid (by simp)⟩
                case round =>
                  obtain ⟨j, hj, rfl, hin⟩ := hrel
                  by_cases hlj0 : j < m
                  · have hlj : j < d.next[k].length := by omega
                    have hlji : (j : Int) < (d.next[k].length : Int) := by omega
                    obtain ⟨gr, offr, rfl, hFr, x, hxr, rfl⟩ := HRR.out.at' hlj
                    by_cases hs1 : d.next[k][j] < 0
                    · have hno := hid (show dfaOk d = false by rw [hok.out]; exact all_not (List.getElem_mem hlt) (by unfold rowOk; rw [all_not (List.getElem_mem hlj) (by simp; omega)]; simp))
                      go_wp2
                      go_ret
                      exact ⟨bool_eq hno.out.symm, hB1⟩
                    · by_cases hs2 : d.next[k][j] < d.next.length
                      · have hsn := hid (all_snoc hlj hin.out (by simp; omega))
                        go_wp2
                        go_round
                        case rel => exact ⟨j + 1, by omega, by go_num, hsn⟩
                        case measure => simp [intOf]; omega
                      · have hno := hid (show dfaOk d = false by rw [hok.out]; exact all_not (List.getElem_mem hlt) (by unfold rowOk; rw [all_not (List.getElem_mem hlj) (by simp; omega)]; simp))
                        go_wp2
                        go_ret
                        exact ⟨bool_eq hno.out.symm, hB1⟩
                  · obtain rfl : j = m := by omega
                    have hin1 := hin.out
                    rw [show d.next[k].take j = d.next[k] from List.take_of_length_le (by omega)] at hin1
                    have hsn := hid (all_snoc hlt hall.out (show rowOk j d.next.length d.next[k] = true by unfold rowOk; rw [hin1, HLEN.out]; simp))
                    clear hin1 hin
                    go_wp2
                    go_round
                    case rel => exact ⟨k + 1, by omega, by go_num, hsn⟩
                    case measure => simp [intOf]; omega
              · have hno := hid (show dfaOk d = false by rw [hok.out]; exact all_not (List.getElem_mem hlt) (by unfold rowOk; simp [hlen]))
                have hlen' : ((d.next[k].length : Int) != (m : Int)) = true := by simp; omega
                clear hlen
                go_wp2
                go_ret
                exact ⟨bool_eq hno.out.symm, hB1⟩
            · obtain rfl : k = d.next.length := by omega
              have hyes := hid (show dfaOk d = true by rw [hok.out]; have := hall.out; rw [List.take_length] at this; exact this)
              clear hall
              go_wp2
              go_ret
              exact ⟨bool_eq hyes.out.symm, hB1⟩
        · have hno := hid (show dfaOk d = false by rw [HALL.out]; simp; omega)
          have hn1' : ¬ (d.next.length : Int) < 1 := by omega
          have hn2' : ¬ (1024 : Int) < d.next.length := by omega
          have hn3' : ((d.fin.length : Int) != (d.next.length : Int)) = true := by simp; omega
          clear hn1 hn2 hn3
          go_wp2
          go_ret
          exact ⟨bool_eq hno.out.symm, hB1⟩
end Go.Proofs.YtfjomnhdmkbkiaaDoor.Im
