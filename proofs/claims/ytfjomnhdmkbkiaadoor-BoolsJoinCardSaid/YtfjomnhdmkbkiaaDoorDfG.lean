/-
  The contract of part.Class, at parts that have classes.
-/
import Derived.Test.YtfjomnhdmkbkiaaDoorDfE
import Derived.Test.YtfjomnhdmkbkiaaDoorDfB
import Derived.Test.YtfjomnhdmkbkiaaDoorDfH
namespace Go.Proofs.YtfjomnhdmkbkiaaDoor.Im
open Go.RowKit Go.Lib

theorem markM_at (i : Int) (s : Se) : ∀ (l l' : List Int) (b : Nat), markM i s b l = some l' → l'.length = l.length ∧ ∀ j (h : j < l.length) (h' : j < l'.length), (hasS s (b + j) = true → l[j] < 0 ∧ l'[j] = i) ∧ (hasS s (b + j) = false → l'[j] = l[j])
  | [], l', b, h => by
    unfold markM at h
    cases h
    exact ⟨rfl, fun j h => by simp at h⟩
  | c :: l, l', b, h => by
    unfold markM at h
    split at h
    · rename_i hb
      split at h
      · cases h
      · rename_i hc
        cases hm : markM i s (b + 1) l with
        | none => rw [hm] at h; cases h
        | some m =>
          rw [hm] at h
          cases h
          obtain ⟨h1, h2⟩ := markM_at i s l m (b + 1) hm
          refine ⟨by simp [h1], fun j hj hj' => ?_⟩
          match j with
          | 0 => exact ⟨fun _ => ⟨by simpa using hc, rfl⟩, fun hf => absurd (show hasS s b = false from hf) (by simp [hb])⟩
          | j + 1 =>
            have := h2 j (by simpa using hj) (by simpa using hj')
            rw [show b + 1 + j = b + (j + 1) by omega] at this
            simpa using this
    · rename_i hb
      have hb : hasS s b = false := by simpa using hb
      cases hm : markM i s (b + 1) l with
      | none => rw [hm] at h; cases h
      | some m =>
        rw [hm] at h
        cases h
        obtain ⟨h1, h2⟩ := markM_at i s l m (b + 1) hm
        refine ⟨by simp [h1], fun j hj hj' => ?_⟩
        match j with
        | 0 => exact ⟨fun hf => absurd (show hasS s b = true from hf) (by simp [hb]), fun _ => rfl⟩
        | j + 1 =>
          have := h2 j (by simpa using hj) (by simpa using hj')
          rw [show b + 1 + j = b + (j + 1) by omega] at this
          simpa using this
/-- the classes, marked for the bytes below k -/
def midC (l l' : List Int) (k : Nat) : List Int := l'.take k ++ l.drop k
theorem midC_len {l l' : List Int} (h : l'.length = l.length) (k : Nat) (hk : k ≤ l.length) : (midC l l' k).length = l.length := by unfold midC; simp; omega
theorem midC_get {l l' : List Int} (h : l'.length = l.length) {k : Nat} (hk : k < l.length) (hk2 : k < (midC l l' k).length) : (midC l l' k)[k] = l[k] := by
  have e : (midC l l' k)[k]? = some l[k] := by
    unfold midC
    rw [List.getElem?_append_right (by simp; omega)]
    have e1 : k - (List.take k l').length = 0 := by simp; omega
    rw [e1, List.getElem?_drop]
    simp [hk]
  rw [List.getElem?_eq_getElem hk2] at e
  exact Option.some.inj e
theorem midC_yes {l l' : List Int} (h : l'.length = l.length) {k : Nat} (hk : k < l.length) : midC l l' (k + 1) = (midC l l' k).set k (l'[k]'(by omega)) := by
  unfold midC
  have e1 : (List.take k l').length = k := by simp; omega
  rw [take_succ' _ _ (show k < l'.length by omega), List.set_append_right _ _ (by omega), e1, Nat.sub_self, List.drop_eq_getElem_cons hk, List.set_cons_zero, List.append_assoc]
  rfl
theorem midC_no {l l' : List Int} (h : l'.length = l.length) {k : Nat} (hk : k < l.length) (e : l'[k]'(by omega) = l[k]) : midC l l' (k + 1) = midC l l' k := by
  rw [midC_yes h hk, e]
  have := midC_get h hk (by rw [midC_len h _ (by omega)]; exact hk)
  rw [← this]
  exact List.set_getElem_self _
theorem first_lt (s : Se) : ∀ (k b y : Nat), firstFrom s k b = some y → b ≤ y ∧ y < b + k
  | 0, b, y, h => by cases h
  | k + 1, b, y, h => by
    unfold firstFrom at h
    split at h
    · cases h; omega
    · have := first_lt s k (b + 1) y h; omega
theorem class_step {j : Nat} {last : Int} {c cl : List Int} {s : Se} {rest : List Se} (h : classFrom j last c (s :: rest) = some cl) :
    ∃ b c', firstS s = some b ∧ b < 256 ∧ last < (b : Int) ∧ markM j s 0 c = some c' ∧ classFrom (j + 1) b c' rest = some cl := by
  unfold classFrom at h
  split at h
  · cases h
  · rename_i b hb
    split at h
    · cases h
    · rename_i hlb
      split at h
      · cases h
      · rename_i c' hc
        exact ⟨b, c', hb, by have := first_lt s 256 0 b hb; omega, by omega, hc, h⟩
theorem class_end {j : Nat} {last : Int} {c cl : List Int} (h : classFrom j last c [] = some cl) : c = cl ∧ ∀ x ∈ c, 0 ≤ x := by
  unfold classFrom at h
  split at h
  · rename_i hx
    cases h
    exact ⟨rfl, by simpa using hx⟩
  · cases h
theorem blk4 {w : World} {P : Nat} {s : Se} {T : TypeId} (h : w.heap[P]? = some (.cells #[.int .u64 s.a, .int .u64 s.b, .int .u64 s.c, .int .u64 s.d] T (0, 0))) : w.cell? ⟨P, 0, none⟩ = some (.int .u64 s.a) ∧ w.cell? ⟨P, 1, none⟩ = some (.int .u64 s.b) ∧ w.cell? ⟨P, 2, none⟩ = some (.int .u64 s.c) ∧ w.cell? ⟨P, 3, none⟩ = some (.int .u64 s.d) := ⟨cell_blk h rfl, cell_blk h rfl, cell_blk h rfl, cell_blk h rfl⟩
def ClassPost (w : World) (cl : List Int) (e : Ending) (w' : World) : Prop :=
  e = .returned (.tuple #[.slice (some ⟨w.heap.size, 0, none⟩) 256 256, .int .i64 0]) ∧ w'.ownsRow w.heap.size 3 1 (.slice (some ⟨w.heap.size, 0, none⟩) 256 256) 256 (cl.map iV) ∧ Below w.heap.size w w'
abbrev ClsIn (w : World) (H : Nat) (cl : List Int) : Prop := w.ownsRow H 3 1 (.slice (some ⟨H, 0, none⟩) 256 256) 256 (cl.map iV)
theorem cls_cell {w : World} {H : Nat} {cl : List Int} (h : ClsIn w H cl) {k : Nat} (hk : k < 256) (hl : k < cl.length) : w.cell? ⟨H, k, none⟩ = some (iV cl[k]) := by
  rw [h.cellAt k (by omega), List.getElem?_map, List.getElem?_eq_getElem hl]; rfl

set_option maxRecDepth 100000 in
set_option maxHeartbeats 4000000 in
theorem class_any {F : Nat → Prop} {w : World} {v : Value} {l : List Se} {cl : List Int} (hl : SetsIn F w v l) (hF : ∀ g, F g → g < w.heap.size) (hs : l.length ≤ 1024) (hok : ∀ s ∈ l, s.ok) (hT : Tab w) (hcl : classM l = some cl) :
    Calls Tryd.prog 40 #[v] w (ClassPost w cl) := by
  have HL := hid hl
  have HT := hid hT
  have HCL := hid (show classFrom 0 (-1) (List.replicate 256 (-1)) l = some cl from hcl)
  obtain ⟨ad, cp, rfl, _, _⟩ := hl
  obtain ⟨i0, hi, hz0, hz1, hz2⟩ := info_parts infoI
  have HI := hid hi
  have HZ := hid (And.intro hz0 (And.intro hz1 hz2))
  have HOK := hid hok
  clear hi hz0 hz1 hz2 hcl hT hok
  go_enter Tryd.func40, Tryd.ntmps40
  go_upto_region 2 with (at_make; refine wpList_make_full _ rfl _ _ 22 rfl w.heap.size 3 i0 (.int .i64 0) 1 Tryd.underlying22 HI.out HZ.out.1 HZ.out.2.1 .i64 .i64 _ _ 256 rfl rfl rfl rfl (by rw [HZ.out.2.2]; decide) (by unfold maxLen; omega) (Nat.le_refl _) ?_; intro w1 hown1 hgrow1)
  have HO1 := hid (show ClsIn w1 w.heap.size (List.replicate 0 (-1) ++ List.replicate (256 - 0) 0) by
    have h := hown1
    rw [made_rep (.int .i64 0) 256 rfl] at h
    have e : ((List.replicate 0 (-1) ++ List.replicate (256 - 0) 0 : List Int).map iV) = List.replicate 256 (.int .i64 0) := by rw [List.replicate_zero, List.nil_append, List.map_replicate]
    unfold ClsIn; rw [e]; exact h)
  have HB1 := hid ((Below.refl _ w).grown hgrow1 (Nat.le_refl _) (fun q hq => by cases hq))
  clear hown1 hgrow1
  go_wp2_with fail
  go_loopw [17] (fun i wr => ∃ k : Nat, k ≤ 256 ∧ i = .int .i64 k ∧ ClsIn wr w.heap.size (List.replicate k (-1) ++ List.replicate (256 - k) 0) ∧ Below w.heap.size w wr) (fun i _ => 256 - (intOf i).toNat)
  case atStart => exact ⟨0, Nat.zero_le _, rfl, HO1.out, HB1.out⟩
  case round =>
    obtain ⟨k, hk, rfl, hown, hbel⟩ := hrel
    have HO := hid hown
    clear HO1 HB1 hown
    by_cases hlt : k < 256
    · obtain ⟨x, hx⟩ := own_cell HO.out hlt
      have hf := own_free (i := k) HO.out
      go_wp2
      go_roundw
      case rel =>
        refine ⟨k + 1, by omega, by go_num, ?_, hbel.setCell (Nat.le_refl _) _⟩
        have := own_store (i := k) (iV (-1)) HO.out
        rw [← List.map_set, rep_set _ _ _ _ hlt] at this
        exact this
      case measure => simp [intOf]; omega
    · obtain rfl : k = 256 := by omega
      go_wp2_with fail
      go_loopw [6, 26] (fun va vi wr => ∃ (j : Nat) (last : Int) (c : List Int), j ≤ l.length ∧ vi = .int .i64 j ∧ va = .int .i64 last ∧ -1 ≤ last ∧ last ≤ 255 ∧ Hid (c.length = 256) ∧ ClsIn wr w.heap.size c ∧ Hid (classFrom j last c (l.drop j) = some cl) ∧ Below w.heap.size w wr) (fun _ i _ => l.length - (intOf i).toNat)
      case atStart => exact ⟨0, -1, List.replicate 256 (-1), Nat.zero_le _, rfl, rfl, by omega, by omega, hid (List.length_replicate ..), by simpa using HO.out, HCL, hbel⟩
      case round =>
        clear HO hbel
        obtain ⟨j, last, c, hj, rfl, rfl, hla, hlb, hc256, hown, hcf, hbel⟩ := hrel
        have HO := hid hown
        clear hown
        by_cases hjl : j < l.length
        · obtain ⟨g, off, rfl, hFg, c0, c1, c2, c3⟩ := (SetsIn.frame HL.out (w' := wr) (F' := F) (fun _ h => h) (fun q hq _ => hbel.block q (hF q hq))).at' hjl
          have hcf1 := hcf.out
          rw [drop_cons' l j hjl] at hcf1
          have hsok := HOK.out l[j] (List.getElem_mem hjl)
          obtain ⟨s, hs1⟩ : ∃ s, s = l[j] := ⟨_, rfl⟩
          rw [← hs1] at c0 c1 c2 c3 hcf1 hsok
          obtain ⟨b, c', hfb, hb256, hlast, hmk, hnext⟩ := class_step hcf1
          have hTr := HT.out.below hbel
          have hcall := first_yes hsok hfb (wr.alloc (.cells s.cs 65)) (hTr.alloc _)
          have hlb' : ¬ (b : Int) ≤ last := by omega
          have HNX := hid hnext
          have HMK := hid hmk
          clear hcf hcf1 hs1 hsok hfb hmk hnext hTr
          obtain ⟨wo, rfl⟩ : ∃ wo : World, wo = wr := ⟨_, rfl⟩
          go_wp2_with (go_at_call 74; refine hcall.mono ?_; rintro e w2 ⟨rfl, hb2⟩)
          obtain ⟨hml, hmg⟩ := markM_at j s c c' 0 HMK.out
          have HML := hid hml
          have HMG := hid hmg
          have hP : w2.heap[wo.heap.size]? = some (.cells s.cs 65 (0, 0)) := (hb2.block _ (by simp)).trans (heap_alloc_new _ _)
          have HPB := hid hP
          have hwo := HO.out.lt w.heap.size rfl
          have hz2 := hb2.size
          simp only [World.size_alloc] at hz2
          have HO2 := hid (show ClsIn w2 w.heap.size (midC c c' 0) by
            have h : ClsIn w2 w.heap.size c := own_blk HO.out fun q hq => by cases hq; exact (hb2.block _ (by simp; omega)).trans (alloc_old hwo.2)
            unfold midC; simpa using h)
          have HB2 := hid (show Below w.heap.size w w2 from (hbel.alloc hbel.size _).trans (hb2.mono (by simp; omega)))
          clear hml hmg hP HMK HO hb2
          go_loopw [46] (fun vi wr => ∃ k : Nat, k ≤ 256 ∧ vi = .int .i64 k ∧ ClsIn wr w.heap.size (midC c c' k) ∧ wr.heap[wo.heap.size]? = some (.cells s.cs 65 (0, 0)) ∧ Below w.heap.size w wr ∧ wo.heap.size + 1 ≤ wr.heap.size) (fun i _ => 256 - (intOf i).toNat)
          case atStart => exact ⟨0, Nat.zero_le _, rfl, HO2.out, HPB.out, HB2.out, hz2⟩
          case round =>
            clear HO2 HPB HB2 hz2
            obtain ⟨k, hk, rfl, hown, hblk, hbl, hws⟩ := hrel
            have HO := hid hown
            have HPB := hid hblk
            have HBL := hid hbl
            obtain ⟨d0, d1, d2, d3⟩ := blk4 (s := s) hblk
            clear hown hblk hbl
            by_cases hlt : k < 256
            · have hkw : IntKind.u8.wrap (k : Int) = (k : Int) := IntWalk.u8_in _ (by omega)
              have HKB := hid (show (UInt8.ofNat k).toNat = k by simp; omega)
              have hkc : k < c.length := by rw [hc256.out]; exact hlt
              have hkc' : k < c'.length := by rw [HML.out]; exact hkc
              have hmg := HMG.out k hkc hkc'
              rw [Nat.zero_add] at hmg
              rcases Bool.eq_false_or_eq_true (hasS s k) with hh | hh
              · have hcall := has_yes (c := UInt8.ofNat k) (by rw [HKB.out]; exact hh) wr
                rw [HKB.out] at hcall
                obtain ⟨hneg, hset⟩ := hmg.1 hh
                have hmk : k < (midC c c' k).length := by rw [midC_len HML.out _ (by omega)]; exact hkc
                have hcell := cls_cell HO.out hlt hmk
                rw [midC_get HML.out hkc hmk] at hcell
                have HMY := hid (midC_yes HML.out hkc)
                rw [hset] at HMY
                obtain ⟨x, hx⟩ : ∃ x, x = c[k] := ⟨_, rfl⟩
                rw [← hx] at hcell hneg
                clear hh hset hmg hx hmk
                go_wp2_with (go_at_call 63; refine hcall.mono ?_; rintro e w3 ⟨rfl, hb3⟩; have HO3 := hid (own_later HO.out hb3); have e4 := (cell_heap (hb3.block _ (HO.out.lt w.heap.size rfl).2)).trans hcell; have f4 := own_free (i := k) HO3.out)
                go_roundw
                case rel =>
                  refine ⟨k + 1, by omega, by go_num, ?_, (heap_setCell_other _ _ _ _ (by simp; omega)).trans ((hb3.block _ (by omega)).trans HPB.out), (HBL.out.trans (hb3.mono (by omega))).setCell (Nat.le_refl _) _, by have := hb3.size; rw [World.size_setCell]; omega⟩
                  rw [HMY.out]
                  unfold ClsIn
                  rw [List.map_set]
                  exact own_store (iV (j : Int)) HO3.out
                case measure => simp [intOf]; omega
              · have hcall := has_not (c := UInt8.ofNat k) (by rw [HKB.out]; exact hh) wr
                rw [HKB.out] at hcall
                have HMY := hid (midC_no HML.out hkc (hmg.2 hh))
                clear hh hmg
                go_wp2_with (go_at_call 63; refine hcall.mono ?_; rintro e w3 ⟨rfl, hb3⟩)
                go_roundw
                case rel => exact ⟨k + 1, by omega, by go_num, by rw [HMY.out]; exact own_later HO.out hb3, (hb3.block _ (by omega)).trans HPB.out, HBL.out.trans (hb3.mono (by omega)), by have := hb3.size; omega⟩
                case measure => simp [intOf]; omega
            · obtain rfl : k = 256 := by omega
              have HE := hid (show midC c c' 256 = c' by
                unfold midC
                rw [List.take_of_length_le (by rw [HML.out, hc256.out]; exact Nat.le_refl _), List.drop_eq_nil_of_le (by rw [hc256.out]; exact Nat.le_refl _), List.append_nil])
              go_wp2
              refine And.intro ?_ ?_
              · repeat apply Exists.intro
                refine And.intro ?_ rfl
                exact ⟨j + 1, b, c', by omega, by go_num, rfl, by omega, by omega, hid (HML.out.trans hc256.out), by have := HO.out; rw [HE.out] at this; exact this, HNX, HBL.out⟩
              · simp [intOf]; omega
        · obtain rfl : j = l.length := by omega
          have hcf1 := hcf.out
          rw [List.drop_length] at hcf1
          obtain ⟨e1, e2⟩ := class_end hcf1
          have HE1 := hid e1
          have HE2 := hid e2
          clear hcf hcf1 e1 e2
          go_wp2_with fail
          go_loop [67] (fun vi => ∃ k : Nat, k ≤ 256 ∧ vi = .int .i64 k) (fun i => 256 - (intOf i).toNat)
          case atStart => exact ⟨0, Nat.zero_le _, rfl⟩
          case round =>
            obtain ⟨k, hk, rfl⟩ := hrel
            by_cases hlt : k < 256
            · have hkc : k < c.length := by rw [hc256.out]; exact hlt
              have hcell := cls_cell HO.out hlt hkc
              have hge := HE2.out c[k] (List.getElem_mem hkc)
              obtain ⟨x, hx⟩ : ∃ x, x = c[k] := ⟨_, rfl⟩
              rw [← hx] at hcell hge
              clear hx
              go_wp2
              go_round
              case rel => exact ⟨k + 1, by omega, by go_num⟩
              case measure => simp [intOf]; omega
            · obtain rfl : k = 256 := by omega
              go_wp2
              go_ret2
              exact ⟨rfl, by rw [← HE1.out]; exact HO.out, hbel⟩
end Go.Proofs.YtfjomnhdmkbkiaaDoor.Im
