/-
  leaf: the contract.
  The closures that write an expression: what lies in memory for them, and join.
-/
import Derived.Test.YtfljcfdfgojdoaaGreatDoorSb32
import Derived.Test.YtfljcfdfgojdoaaGreatDoorSb22
import Derived.Deep.RegionHeld3
namespace Go.Proofs.YtfljcfdfgojdoaaGreatDoor.Sh
open Go.RowKit Go.Lib Go.Proofs.YtfljcfdfgojdoaaGreatDoor

theorem StrPost.mk {l : List B} {w w' : World} (h : Below w.heap.size w w') : StrPost l w (.returned (.string ⟨l.toArray⟩)) w' := ⟨rfl, h⟩
set_option maxRecDepth 100000 in
set_option maxHeartbeats 1000000 in
theorem leaf_any {k : Int} {x : List B} {s : Se} (v : Value) (mn mx : Int) (w : World) (hk : k = 1 ∨ k = 2 ∨ k = 3) (hs : SeOk s) (hx : x.length ≤ 1000) :
    Calls Tryz.prog 103 #[.agg (reC k x s v mn mx)] w (StrPost (leafW setS k x s) w) := by
  have hb0 : Below w.heap.size w (w.alloc (.cells (reC k x s v mn mx) 33)) := (Below.refl _ w).alloc (Nat.le_refl _) _
  have hblk : (w.alloc (.cells (reC k x s v mn mx) 33)).heap[w.heap.size]? = some (.cells (reC k x s v mn mx) 33 (0, 0)) := heap_alloc_new _ _
  have hsz : (w.alloc (.cells (reC k x s v mn mx) 33)).heap.size = w.heap.size + 1 := by simp
  have HSE := hid hs
  clear hs
  rcases hk with rfl | rfl | rfl
  · have HE := hid (show leafW setS 1 x s = textW x from rfl)
    have ht := text2_any ⟨x.toArray⟩ (by show x.toArray.size ≤ _; simp; omega)
    have HB := hid hb0
    clear hb0 hblk
    go_enter Tryz.func103, Tryz.ntmps103
    go_wp2_with (go_at_call 87; refine (ht _).mono ?_; rintro e W2 ⟨rfl, hb2⟩)
    go_ret
    rw [HE.out]
    exact StrPost.mk (HB.out.trans (hb2.mono (by omega)))
  · have HE := hid (show leafW setS 2 x s = setS s from rfl)
    have c2 := cell_blk (i := 2) hblk rfl
    have c3 := cell_blk (i := 3) hblk rfl
    have c4 := cell_blk (i := 4) hblk rfl
    have c5 := cell_blk (i := 5) hblk rfl
    have e24 := eq24
    have HB := hid hb0
    have HK := hid (show ∀ W : World, Below (w.heap.size + 1) (w.alloc (.cells (reC 2 x s v mn mx) 33)) W → W.cell? ⟨w.heap.size, 2, none⟩ = some (.int .u64 s.a) ∧ W.cell? ⟨w.heap.size, 3, none⟩ = some (.int .u64 s.b) ∧ W.cell? ⟨w.heap.size, 4, none⟩ = some (.int .u64 s.c) ∧ W.cell? ⟨w.heap.size, 5, none⟩ = some (.int .u64 s.d) from fun W hW => by
      have hb := (hW.block w.heap.size (by omega)).trans hblk
      exact ⟨cell_blk hb rfl, cell_blk hb rfl, cell_blk hb rfl, cell_blk hb rfl⟩)
    have HA := hid (isAll_eq (s := s))
    clear hb0 hblk
    go_enter Tryz.func103, Tryz.ntmps103
    go_upto_region 5 with fail
    generalize w.alloc (.cells (reC 2 x s v mn mx) 33) = W0 at *
    have hq0 := hid (Below.refl (w.heap.size + 1) W0)
    have hqd := hid ((Below.refl (w.heap.size + 1) W0).drew)
    have hnn := not_any Se.none
    go_region_held3 (fun W => W.cell? ⟨w.heap.size, 2, none⟩ = some (.int .u64 s.a) ∧ W.cell? ⟨w.heap.size, 3, none⟩ = some (.int .u64 s.b) ∧ W.cell? ⟨w.heap.size, 4, none⟩ = some (.int .u64 s.c) ∧ W.cell? ⟨w.heap.size, 5, none⟩ = some (.int .u64 s.d)) (first | exact HK.out _ hq2.out | exact HK.out _ hqd.out | exact HK.out _ hq0.out) ((go_at_call 142; refine (hnn _).mono ?_; rintro e W2 ⟨rfl, hb2⟩; have hq2 := hid (hqd.out.trans (hb2.mono (by show _ ≤ W0.heap.size; omega))); clear hb2))
    rw [show (s.a == (notS Se.none).a && s.b == (notS Se.none).b && s.c == (notS Se.none).c && s.d == (notS Se.none).d) = isAll s from rfl]
    have hst := set2_any s HSE.out
    have HZ := hid hsz
    obtain ⟨d2, d3, d4, d5⟩ := HK.out _ hq2.out
    clear c2 c3 c4 c5 hsz HA e24
    have HB2 := hid (HB.out.trans (hq2.out.mono (by omega)))
    by_cases hA : isAll s = true
    · have HE2 := hid (HE.out.trans (by unfold setS; rw [if_pos hA]))
      rw [hA]
      go_wp2
      go_ret
      rw [HE2.out]
      exact StrPost.mk HB2.out
    · have HE2 := hid (HE.out.trans (by unfold setS; rw [if_neg hA]))
      rw [Bool.not_eq_true] at hA
      rw [hA]
      go_wp2_with (go_at_call 143; refine (hst _).mono ?_; rintro e W3 ⟨rfl, hb3⟩)
      go_ret
      rw [HE2.out]
      exact StrPost.mk (HB2.out.trans (hb3.mono HB2.out.size))
  · have HE := hid (show leafW setS 3 x s = x from rfl)
    have HB := hid hb0
    clear hb0 hblk
    go_enter Tryz.func103, Tryz.ntmps103
    go_wp2
    go_ret
    rw [HE.out]
    exact StrPost.mk HB.out
end Go.Proofs.YtfljcfdfgojdoaaGreatDoor.Sh

namespace Go.Proofs.YtfljcfdfgojdoaaGreatDoor.Sh
open Go.RowKit Go.Lib Go.Proofs.YtfljcfdfgojdoaaGreatDoor

abbrev ptrV (b : Nat) : Value := .pointer (some ⟨b, 0, none⟩)
/-- the variables that the closures have captured: the writer, the closure part, the closure join -/
structure Env (P Bw Bp Bj : Nat) (w : World) : Prop where
  bw : w.heap[Bw]? = some (.cells #[ptrV P] 70 (0, 0))
  bp : w.heap[Bp]? = some (.cells #[.func (.func 96) #[] #[ptrV Bw, ptrV Bp, ptrV Bj]] 130 (0, 0))
  bj : w.heap[Bj]? = some (.cells #[.func (.func 95) #[] #[ptrV Bw, ptrV Bp]] 131 (0, 0))
  nw : Bw ≠ P
  np : Bp ≠ P
  nj : Bj ≠ P
theorem Env.upd {P Bw Bp Bj : Nat} {w w' : World} (h : Env P Bw Bp Bj w) (hu : Upd P w w') : Env P Bw Bp Bj w' :=
  ⟨hu.row h.bw (by decide) h.nw, hu.row h.bp (by decide) h.np, hu.row h.bj (by decide) h.nj, h.nw, h.np, h.nj⟩
theorem ReG.upd {P : Nat} {w w1 : World} {r : Re} {cs : Array Value} (h : ReG (fun g => g < P) w r cs) (hu : Upd P w w1) : ReG (fun g => g < P) w1 r cs :=
  h.frame (fun _ h => h) fun g hg hl => hu.block g hl (by omega) (.inl hg)
/-- what a method of the writer hands back: nothing; and what the writer holds then -/
def WPost (P : Nat) (w : World) (d m : Nat) (l : List B) (e : Ending) (w' : World) : Prop := e = .returned (.tuple #[]) ∧ SW P w' d m l ∧ Upd P w w'
/-- the closure part writes r, asked for at a level -/
def PartOk (P Bw Bp Bj : Nat) (r : Re) (asked : Nat) : Prop :=
  ∀ (cs : Array Value) (w : World) (d m : Nat) (l : List B), ReG (fun g => g < P) w r cs → Env P Bw Bp Bj w → SW P w d m l → d ≤ m → d + askD r asked ≤ 1000000 → m ≤ 1000000 → l.length + (askW setS r asked).length ≤ 1099511627776 →
    Calls Tryz.prog 96 #[.agg cs, .int .i64 asked, ptrV Bw, ptrV Bp, ptrV Bj] w (WPost P w d (max m (d + askD r asked)) (l ++ askW setS r asked))
theorem tailW_app (sep : List B) (asked : Nat) : ∀ (a b : List Re), tailW setS sep asked (a ++ b) = tailW setS sep asked a ++ tailW setS sep asked b
  | [], b => by rw [tailW]; rfl
  | p :: a, b => by
    rw [List.cons_append, tailW, tailW, tailW_app sep asked a b]
    simp
theorem partsW_snoc (sep : List B) (asked : Nat) (l : List Re) (p : Re) : partsW setS sep asked (l ++ [p]) = partsW setS sep asked l ++ ((if l = [] then [] else sep) ++ askW setS p asked) := by
  rcases l with _ | ⟨q, l⟩
  · rw [List.nil_append, partsW_one, partsW]; rfl
  · rw [List.cons_append, partsW, partsW, tailW_app, tailW, tailW]
    simp [askW]
theorem partsW_le (sep : List B) (asked : Nat) (l : List Re) (i : Nat) : (partsW setS sep asked (l.take i)).length ≤ (partsW setS sep asked l).length := by
  rcases l with _ | ⟨q, l⟩
  · simp
  · rcases i with _ | i
    · rw [List.take_zero, partsW]; exact Nat.zero_le _
    · rw [List.take_succ_cons, partsW, partsW]
      conv => rhs; rw [← List.take_append_drop i l, tailW_app]
      simp only [List.length_append]
      omega
theorem partsD_snoc (asked : Nat) : ∀ (l : List Re) (p : Re), partsD asked (l ++ [p]) = max (partsD asked l) (askD p asked)
  | [], p => by rw [List.nil_append, partsD, partsD, partsD]; show max (askD p asked) 0 = max 0 (askD p asked); omega
  | q :: l, p => by rw [List.cons_append, partsD, partsD, partsD_snoc asked l p, Nat.max_assoc]
theorem partsD_le (asked : Nat) (l : List Re) : ∀ i, partsD asked (l.take i) ≤ partsD asked l := by
  induction l with
  | nil => intro i; simp
  | cons q l ih =>
    intro i
    rcases i with _ | i
    · rw [List.take_zero, partsD]; exact Nat.zero_le _
    · rw [List.take_succ_cons, partsD, partsD]
      have := ih i
      omega
theorem take_snoc {α : Type} {l : List α} {i : Nat} (h : i < l.length) : l.take (i + 1) = l.take i ++ [l[i]] := by
  rw [List.take_succ_eq_append_getElem h]
theorem Upd.cell {P : Nat} {w w1 : World} (h : Upd P w w1) {g o : Nat} {v : Value} (hg : g < P) (hc : w.cell? ⟨g, o, none⟩ = some v) : w1.cell? ⟨g, o, none⟩ = some v :=
  (World.cell?_of_block (h.block g (World.block_lt_of_cell? w _ hc) (by omega) (.inl hg))).trans hc

set_option maxRecDepth 100000 in
set_option maxHeartbeats 1000000 in
theorem join_any {P Bw Bp Bj : Nat} (ps : List Re) (asked : Nat) (sep : ByteArray) (hp : ∀ p ∈ ps, PartOk P Bw Bp Bj p asked) {ad : Option Addr} {cap : Nat} {w : World} {d m : Nat} {l : List B}
    (hlen : ps.length ≤ maxLen) (hps : ps ≠ [] → ∃ g off, ad = some ⟨g, off, none⟩ ∧ g < P ∧ PartsG (fun g => g < P) w g off ps) (hE : Env P Bw Bp Bj w) (hS : SW P w d m l) (hdm : d ≤ m)
    (hD : d + partsD asked ps ≤ 1000000) (hm : m ≤ 1000000) (hL : l.length + (partsW setS sep.data.toList asked ps).length ≤ 1099511627776) :
    Calls Tryz.prog 95 #[.slice ad ps.length cap, .string sep, .int .i64 asked, ptrV Bw, ptrV Bp] w (WPost P w d (max m (d + partsD asked ps)) (l ++ partsW setS sep.data.toList asked ps)) := by
  have HP := hid hp
  have HS := hid hps
  have HW := hid hS
  have HE := hid hE
  unfold maxLen at hlen
  clear hp hps hE hS
  go_enter Tryz.func95, Tryz.ntmps95
  go_wp2
  go_loopw [12] (fun v wr => ∃ i : Nat, i ≤ ps.length ∧ v = .int .i64 i ∧ Hid (SW P wr d (max m (d + partsD asked (ps.take i))) (l ++ partsW setS sep.data.toList asked (ps.take i))) ∧ Upd P w wr) (fun v _ => ps.length - (RowKit.intOf v).toNat)
  case atStart => exact ⟨0, Nat.zero_le _, rfl, by
    rw [List.take_zero, partsD, partsW, List.append_nil, Nat.add_zero, Nat.max_eq_left hdm]; exact HW, Upd.refl _ _⟩
  case round =>
    obtain ⟨i, hi, rfl, HW, hu⟩ := hrel
    have HU := hid hu
    have HE1 := hid (HE.out.upd hu)
    by_cases hlt : i < ps.length
    · obtain ⟨g, off, rfl, hgP, hparts⟩ := HS.out (by rintro rfl; simp at hlt)
      obtain ⟨k1, x1, s1, ad1, n1, cap1, mn1, mx1, hr1, hc⟩ := hparts.at (List.getElem?_eq_getElem hlt)
      have a0 : wr.cell? ⟨g, off + i * 9, none⟩ = _ := hu.cell hgP (hc 0 _ rfl)
      have a1 := hu.cell hgP (hc 1 _ rfl)
      have a2 := hu.cell hgP (hc 2 _ rfl)
      have a3 := hu.cell hgP (hc 3 _ rfl)
      have a4 := hu.cell hgP (hc 4 _ rfl)
      have a5 := hu.cell hgP (hc 5 _ rfl)
      have a6 := hu.cell hgP (hc 6 _ rfl)
      have a7 := hu.cell hgP (hc 7 _ rfl)
      have a8 := hu.cell hgP (hc 8 _ rfl)
      have HR := hid (hr1.upd hu)
      have hPw := HW.out.lt
      have hmem : ps[i] ∈ ps := List.getElem_mem hlt
      have HT := hid (take_snoc hlt)
      have HWl := hid (partsW_snoc sep.data.toList asked (ps.take i) ps[i])
      have HDl := hid (partsD_snoc asked (ps.take i) ps[i])
      have hLi := partsW_le sep.data.toList asked ps (i + 1)
      have hDi := partsD_le asked ps (i + 1)
      rw [HT.out, HWl.out, List.length_append, List.length_append] at hLi
      rw [HT.out, HDl.out] at hDi
      have hdm2 : max m (d + partsD asked (ps.take i)) ≤ 1000000 := by omega
      have hdm3 : d ≤ max m (d + partsD asked (ps.take i)) := by omega
      have hdm4 : d + askD ps[i] asked ≤ 1000000 := by omega
      have hb0 : (wr.alloc (.cells (reC k1 x1 s1 (.slice ad1 n1 cap1) mn1 mx1) 33)).heap[wr.heap.size]? = some (.cells (reC k1 x1 s1 (.slice ad1 n1 cap1) mn1 mx1) 33 (0, 0)) := heap_alloc_new _ _
      have HPI := hid (HP.out ps[i] hmem)
      have HUA := hid ((Upd.refl P wr).alloc (.cells (reC k1 x1 s1 (.slice ad1 n1 cap1) mn1 mx1) 33))
      have HWA := hid (HW.out.alloc (.cells (reC k1 x1 s1 (.slice ad1 n1 cap1) mn1 mx1) 33))
      have HBX := hid hb0
      have b0 := cell_blk (i := 0) hb0 rfl
      have b1 := cell_blk (i := 1) hb0 rfl
      have b2 := cell_blk (i := 2) hb0 rfl
      have b3 := cell_blk (i := 3) hb0 rfl
      have b4 := cell_blk (i := 4) hb0 rfl
      have b5 := cell_blk (i := 5) hb0 rfl
      have b6 := cell_blk (i := 6) hb0 rfl
      have b7 := cell_blk (i := 7) hb0 rfl
      have b8 := cell_blk (i := 8) hb0 rfl
      have HEA := hid (HE1.out.upd HUA.out)
      have hw0 := cell_blk (i := 0) HEA.out.bw rfl
      have hp0 := cell_blk (i := 0) HEA.out.bp rfl
      have hlx : (l ++ partsW setS sep.data.toList asked (ps.take i)).length = l.length + (partsW setS sep.data.toList asked (ps.take i)).length := List.length_append
      have hgi : (i : Int) < (ps.length : Int) := by omega
      have HLI := hid hLi
      clear hb0 hparts hc hr1 hmem hLi hDi
      go_upto_region 3 with fail
      generalize (wr.alloc (.cells (reC k1 x1 s1 (.slice ad1 n1 cap1) mn1 mx1) 33)) = WA at *
      have hszA : wr.heap.size < WA.heap.size := lt_of_heap HBX.out
      have hss : sep.data.toList.length = sep.size := rfl
      clear a0 a1 a2 a3 a4 a5 a6 a7 a8
      rcases Nat.eq_zero_or_pos i with hi0 | hpos
      · have hnp : ¬ ((0 : Int) < (i : Int)) := by omega
        have hem : ps.take i = [] := by rw [hi0, List.take_zero]
        have HWl2 := hid (HWl.out.trans (by rw [if_pos hem]))
        have hLb : (partsW setS sep.data.toList asked (ps.take i)).length + (askW setS ps[i] asked).length ≤ (partsW setS sep.data.toList asked ps).length := by
          have := HLI.out
          rw [if_pos hem] at this
          simpa using this
        have hcall := HPI.out _ WA d _ _ ((HR.out.upd HUA.out)) HEA.out HWA.out hdm3 hdm4 hdm2 (by omega)
        clear hLb hL
        go_wp2_with (go_at_call 96; refine hcall.mono ?_; clear hcall; rintro e w3 ⟨rfl, hw3, hu3⟩)
        go_roundw
        case rel => exact ⟨i + 1, by omega, by go_num, hid (by
          rw [HT.out, HWl2.out, HDl.out, List.nil_append, ← List.append_assoc]
          rw [show max m (d + max (partsD asked (ps.take i)) (askD ps[i] asked)) = max (max m (d + partsD asked (ps.take i))) (d + askD ps[i] asked) by omega]
          exact hw3), HU.out.trans (HUA.out.trans hu3)⟩
        case measure => simp [RowKit.intOf]; omega
      · have hpos' : (0 : Int) < (i : Int) := by omega
        have hne : ps.take i ≠ [] := by intro e; have := congrArg List.length e; rw [List.length_take, List.length_nil] at this; omega
        have HWl2 := hid (HWl.out.trans (by rw [if_neg hne]))
        have hLb := HLI.out
        rw [if_neg hne, hss] at hLb
        have hput := put_any sep HWA.out (by omega)
        have hL2 : (l ++ partsW setS sep.data.toList asked (ps.take i) ++ sep.data.toList).length + (askW setS ps[i] asked).length ≤ 1099511627776 := by rw [List.length_append, hlx, hss]; omega
        clear hLb hL b0 b1 b2 b3 b4 b5 b6 b7 b8
        go_upto_region 5 with (go_at_call 86; refine hput.mono ?_; clear hput hw0 hp0; rintro e w2 ⟨rfl, hw2, hu2⟩; have hb2 := hu2.row HBX.out (by decide) (by omega); have b0 := cell_blk (i := 0) hb2 rfl; have b1 := cell_blk (i := 1) hb2 rfl; have b2 := cell_blk (i := 2) hb2 rfl; have b3 := cell_blk (i := 3) hb2 rfl; have b4 := cell_blk (i := 4) hb2 rfl; have b5 := cell_blk (i := 5) hb2 rfl; have b6 := cell_blk (i := 6) hb2 rfl; have b7 := cell_blk (i := 7) hb2 rfl; have b8 := cell_blk (i := 8) hb2 rfl; have HE2 := hid (HEA.out.upd hu2); have hp0 := cell_blk (i := 0) HE2.out.bp rfl; have hcall := HPI.out _ w2 d _ _ ((HR.out.upd HUA.out).upd hu2) HE2.out hw2 hdm3 hdm4 hdm2 hL2; have HU2 := hid hu2; clear hb2 hu2 hw2)
        go_wp2_with (go_at_call 96; refine hcall.mono ?_; clear hcall; rintro e w3 ⟨rfl, hw3, hu3⟩)
        go_roundw
        case rel => exact ⟨i + 1, by omega, by go_num, hid (by
          rw [HT.out, HWl2.out, HDl.out, ← List.append_assoc, ← List.append_assoc]
          rw [show max m (d + max (partsD asked (ps.take i)) (askD ps[i] asked)) = max (max m (d + partsD asked (ps.take i))) (d + askD ps[i] asked) by omega]
          exact hw3), HU.out.trans (HUA.out.trans (HU2.out.trans hu3))⟩
        case measure => simp [RowKit.intOf]; omega
    · obtain rfl : i = ps.length := by omega
      go_wp2
      go_end0
      have hw := HW.out
      rw [List.take_length] at hw
      exact ⟨rfl, hw, HU.out⟩
end Go.Proofs.YtfljcfdfgojdoaaGreatDoor.Sh
