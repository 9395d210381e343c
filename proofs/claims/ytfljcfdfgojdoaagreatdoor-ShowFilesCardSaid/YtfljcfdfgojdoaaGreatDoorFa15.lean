/-
  The closures that write an expression: what lies in memory for them, and join.
  part: the closure that writes an expression asked for at a level.
-/
import Derived.Test.YtfljcfdfgojdoaaGreatDoorFa14
import Derived.StillTailTactics
namespace Go.Proofs.YtfljcfdfgojdoaaGreatDoor.Sh
open Go.RowKit Go.Lib Go.Proofs.YtfljcfdfgojdoaaGreatDoor

abbrev ptrV (b : Nat) : Value := .pointer (some ⟨b, 0, none⟩)
/-- the variables that the closures have captured: the writer, the closure part, the closure join -/
structure Env (P Bw Bp Bj : Nat) (w : World) : Prop where
  bw : w.heap[Bw]? = some (.cells #[ptrV P] 70 (0, 0))
  bp : w.heap[Bp]? = some (.cells #[.func (.func 96) #[] #[ptrV Bw, ptrV Bp, ptrV Bj]] 130 (0, 0))
  bj : w.heap[Bj]? = some (.cells #[.func (.func 95) #[] #[ptrV Bw, ptrV Bp]] 131 (0, 0))
  nw : Bw ≠ P
  np : Bp ≠ P
  nj : Bj ≠ P
theorem Env.upd {P Bw Bp Bj : Nat} {w w' : World} (h : Env P Bw Bp Bj w) (hu : Upd P w w') : Env P Bw Bp Bj w' :=
  ⟨hu.row h.bw (by decide) h.nw, hu.row h.bp (by decide) h.np, hu.row h.bj (by decide) h.nj, h.nw, h.np, h.nj⟩
theorem ReG.upd {P : Nat} {w w1 : World} {r : Re} {cs : Array Value} (h : ReG (fun g => g < P) w r cs) (hu : Upd P w w1) : ReG (fun g => g < P) w1 r cs :=
  h.frame (fun _ h => h) fun g hg hl => hu.block g hl (by omega) (.inl hg)
/-- what a method of the writer hands back: nothing; and what the writer holds then -/
def WPost (P : Nat) (w : World) (d m : Nat) (l : List B) (e : Ending) (w' : World) : Prop := e = .returned (.tuple #[]) ∧ SW P w' d m l ∧ Upd P w w'
/-- the closure part writes r, asked for at a level -/
def PartOk (P Bw Bp Bj : Nat) (r : Re) (asked : Nat) : Prop :=
  ∀ (cs : Array Value) (w : World) (d m : Nat) (l : List B), ReG (fun g => g < P) w r cs → Env P Bw Bp Bj w → SW P w d m l → d ≤ m → d + askD r asked ≤ 1000000 → m ≤ 1000000 → l.length + (askW setS r asked).length ≤ 1099511627776 →
    Calls Tryz.prog 96 #[.agg cs, .int .i64 asked, ptrV Bw, ptrV Bp, ptrV Bj] w (WPost P w d (max m (d + askD r asked)) (l ++ askW setS r asked))
theorem tailW_app (sep : List B) (asked : Nat) : ∀ (a b : List Re), tailW setS sep asked (a ++ b) = tailW setS sep asked a ++ tailW setS sep asked b
  | [], b => by rw [tailW]; rfl
  | p :: a, b => by
    rw [List.cons_append, tailW, tailW, tailW_app sep asked a b]
    simp
theorem partsW_snoc (sep : List B) (asked : Nat) (l : List Re) (p : Re) : partsW setS sep asked (l ++ [p]) = partsW setS sep asked l ++ ((if l = [] then [] else sep) ++ askW setS p asked) := by
  rcases l with _ | ⟨q, l⟩
  · rw [List.nil_append, partsW_one, partsW]; rfl
  · rw [List.cons_append, partsW, partsW, tailW_app, tailW, tailW]
    simp [askW]
theorem partsW_le (sep : List B) (asked : Nat) (l : List Re) (i : Nat) : (partsW setS sep asked (l.take i)).length ≤ (partsW setS sep asked l).length := by
  rcases l with _ | ⟨q, l⟩
  · simp
  · rcases i with _ | i
    · rw [List.take_zero, partsW]; exact Nat.zero_le _
    · rw [List.take_succ_cons, partsW, partsW]
      conv => rhs; rw [← List.take_append_drop i l, tailW_app]
      simp only [List.length_append]
      omega
theorem partsD_snoc (asked : Nat) : ∀ (l : List Re) (p : Re), partsD asked (l ++ [p]) = max (partsD asked l) (askD p asked)
  | [], p => by rw [List.nil_append, partsD, partsD, partsD]; show max (askD p asked) 0 = max 0 (askD p asked); omega
  | q :: l, p => by rw [List.cons_append, partsD, partsD, partsD_snoc asked l p, Nat.max_assoc]
theorem partsD_le (asked : Nat) (l : List Re) : ∀ i, partsD asked (l.take i) ≤ partsD asked l := by
  induction l with
  | nil => intro i; simp
  | cons q l ih =>
    intro i
    rcases i with _ | i
    · rw [List.take_zero, partsD]; exact Nat.zero_le _
    · rw [List.take_succ_cons, partsD, partsD]
      have := ih i
      omega
theorem take_snoc {α : Type} {l : List α} {i : Nat} (h : i < l.length) : l.take (i + 1) = l.take i ++ [l[i]] := by
  rw [List.take_succ_eq_append_getElem h]
theorem Upd.cell {P : Nat} {w w1 : World} (h : Upd P w w1) {g o : Nat} {v : Value} (hg : g < P) (hc : w.cell? ⟨g, o, none⟩ = some v) : w1.cell? ⟨g, o, none⟩ = some v :=
  (World.cell?_of_block (h.block g (World.block_lt_of_cell? w _ hc) (by omega) (.inl hg))).trans hc

set_option maxRecDepth 100000 in
set_option maxHeartbeats 1000000 in
theorem join_any {P Bw Bp Bj : Nat} (ps : List Re) (asked : Nat) (sep : ByteArray) (hp : ∀ p ∈ ps, PartOk P Bw Bp Bj p asked) {ad : Option Addr} {cap : Nat} {w : World} {d m : Nat} {l : List B}
    (hlen : ps.length ≤ maxLen) (hps : ps ≠ [] → ∃ g off, ad = some ⟨g, off, none⟩ ∧ g < P ∧ PartsG (fun g => g < P) w g off ps) (hE : Env P Bw Bp Bj w) (hS : SW P w d m l) (hdm : d ≤ m)
    (hD : d + partsD asked ps ≤ 1000000) (hm : m ≤ 1000000) (hL : l.length + (partsW setS sep.data.toList asked ps).length ≤ 1099511627776) :
    Calls Tryz.prog 95 #[.slice ad ps.length cap, .string sep, .int .i64 asked, ptrV Bw, ptrV Bp] w (WPost P w d (max m (d + partsD asked ps)) (l ++ partsW setS sep.data.toList asked ps)) := by
  have HP := hid hp
  have HS := hid hps
  have HW := hid hS
  have HE := hid hE
  unfold maxLen at hlen
  clear hp hps hE hS
  go_enter Tryz.func95, Tryz.ntmps95
  go_wp2
  go_loopw [12] (fun v wr => ∃ i : Nat, i ≤ ps.length ∧ v = .int .i64 i ∧ Hid (SW P wr d (max m (d + partsD asked (ps.take i))) (l ++ partsW setS sep.data.toList asked (ps.take i))) ∧ Upd P w wr) (fun v _ => ps.length - (RowKit.intOf v).toNat)
  case atStart => exact ⟨0, Nat.zero_le _, rfl, by
    rw [List.take_zero, partsD, partsW, List.append_nil, Nat.add_zero, Nat.max_eq_left hdm]; exact HW, Upd.refl _ _⟩
  case round =>
    obtain ⟨i, hi, rfl, HW, hu⟩ := hrel
    have HU := hid hu
    have HE1 := hid (HE.out.upd hu)
    by_cases hlt : i < ps.length
    · obtain ⟨g, off, rfl, hgP, hparts⟩ := HS.out (by rintro rfl; simp at hlt)
      obtain ⟨k1, x1, s1, ad1, n1, cap1, mn1, mx1, hr1, hc⟩ := hparts.at (List.getElem?_eq_getElem hlt)
      have a0 : wr.cell? ⟨g, off + i * 9, none⟩ = _ := hu.cell hgP (hc 0 _ rfl)
      have a1 := hu.cell hgP (hc 1 _ rfl)
      have a2 := hu.cell hgP (hc 2 _ rfl)
      have a3 := hu.cell hgP (hc 3 _ rfl)
      have a4 := hu.cell hgP (hc 4 _ rfl)
      have a5 := hu.cell hgP (hc 5 _ rfl)
      have a6 := hu.cell hgP (hc 6 _ rfl)
      have a7 := hu.cell hgP (hc 7 _ rfl)
      have a8 := hu.cell hgP (hc 8 _ rfl)
      have HR := hid (hr1.upd hu)
      have hPw := HW.out.lt
      have hmem : ps[i] ∈ ps := List.getElem_mem hlt
      have HT := hid (take_snoc hlt)
      have HWl := hid (partsW_snoc sep.data.toList asked (ps.take i) ps[i])
      have HDl := hid (partsD_snoc asked (ps.take i) ps[i])
      have hLi := partsW_le sep.data.toList asked ps (i + 1)
      have hDi := partsD_le asked ps (i + 1)
      rw [HT.out, HWl.out, List.length_append, List.length_append] at hLi
      rw [HT.out, HDl.out] at hDi
      have hdm2 : max m (d + partsD asked (ps.take i)) ≤ 1000000 := by omega
      have hdm3 : d ≤ max m (d + partsD asked (ps.take i)) := by omega
      have hdm4 : d + askD ps[i] asked ≤ 1000000 := by omega
      have hb0 : (wr.alloc (.cells (reC k1 x1 s1 (.slice ad1 n1 cap1) mn1 mx1) 33)).heap[wr.heap.size]? = some (.cells (reC k1 x1 s1 (.slice ad1 n1 cap1) mn1 mx1) 33 (0, 0)) := heap_alloc_new _ _
      have HPI := hid (HP.out ps[i] hmem)
      have HUA := hid ((Upd.refl P wr).alloc (.cells (reC k1 x1 s1 (.slice ad1 n1 cap1) mn1 mx1) 33))
      have HWA := hid (HW.out.alloc (.cells (reC k1 x1 s1 (.slice ad1 n1 cap1) mn1 mx1) 33))
      have HBX := hid hb0
      have b0 := cell_blk (i := 0) hb0 rfl
      have b1 := cell_blk (i := 1) hb0 rfl
      have b2 := cell_blk (i := 2) hb0 rfl
      have b3 := cell_blk (i := 3) hb0 rfl
      have b4 := cell_blk (i := 4) hb0 rfl
      have b5 := cell_blk (i := 5) hb0 rfl
      have b6 := cell_blk (i := 6) hb0 rfl
      have b7 := cell_blk (i := 7) hb0 rfl
      have b8 := cell_blk (i := 8) hb0 rfl
      have HEA := hid (HE1.out.upd HUA.out)
      have hw0 := cell_blk (i := 0) HEA.out.bw rfl
      have hp0 := cell_blk (i := 0) HEA.out.bp rfl
      have hlx : (l ++ partsW setS sep.data.toList asked (ps.take i)).length = l.length + (partsW setS sep.data.toList asked (ps.take i)).length := List.length_append
      have hgi : (i : Int) < (ps.length : Int) := by omega
      have HLI := hid hLi
      clear hb0 hparts hc hr1 hmem hLi hDi
      go_upto_region 3 with fail
      generalize (wr.alloc (.cells (reC k1 x1 s1 (.slice ad1 n1 cap1) mn1 mx1) 33)) = WA at *
      have hszA : wr.heap.size < WA.heap.size := lt_of_heap HBX.out
      have hss : sep.data.toList.length = sep.size := rfl
      clear a0 a1 a2 a3 a4 a5 a6 a7 a8
      rcases Nat.eq_zero_or_pos i with hi0 | hpos
      · have hnp : ¬ ((0 : Int) < (i : Int)) := by omega
        have hem : ps.take i = [] := by rw [hi0, List.take_zero]
        have HWl2 := hid (HWl.out.trans (by rw [if_pos hem]))
        have hLb : (partsW setS sep.data.toList asked (ps.take i)).length + (askW setS ps[i] asked).length ≤ (partsW setS sep.data.toList asked ps).length := by
          have := HLI.out
          rw [if_pos hem] at this
          simpa using this
        have hcall := HPI.out _ WA d _ _ ((HR.out.upd HUA.out)) HEA.out HWA.out hdm3 hdm4 hdm2 (by omega)
        clear hLb hL
        go_wp2_with (go_at_call 96; refine hcall.mono ?_; clear hcall; rintro e w3 ⟨rfl, hw3, hu3⟩)
        go_roundw
        case rel => exact ⟨i + 1, by omega, by go_num, hid (by
          rw [HT.out, HWl2.out, HDl.out, List.nil_append, ← List.append_assoc]
          rw [show max m (d + max (partsD asked (ps.take i)) (askD ps[i] asked)) = max (max m (d + partsD asked (ps.take i))) (d + askD ps[i] asked) by omega]
          exact hw3), HU.out.trans (HUA.out.trans hu3)⟩
        case measure => simp [RowKit.intOf]; omega
      · have hpos' : (0 : Int) < (i : Int) := by omega
        have hne : ps.take i ≠ [] := by intro e; have := congrArg List.length e; rw [List.length_take, List.length_nil] at this; omega
        have HWl2 := hid (HWl.out.trans (by rw [if_neg hne]))
        have hLb := HLI.out
        rw [if_neg hne, hss] at hLb
        have hput := put_any sep HWA.out (by omega)
        have hL2 : (l ++ partsW setS sep.data.toList asked (ps.take i) ++ sep.data.toList).length + (askW setS ps[i] asked).length ≤ 1099511627776 := by rw [List.length_append, hlx, hss]; omega
        clear hLb hL b0 b1 b2 b3 b4 b5 b6 b7 b8
        go_upto_region 5 with (go_at_call 86; refine hput.mono ?_; clear hput hw0 hp0; rintro e w2 ⟨rfl, hw2, hu2⟩; have hb2 := hu2.row HBX.out (by decide) (by omega); have b0 := cell_blk (i := 0) hb2 rfl; have b1 := cell_blk (i := 1) hb2 rfl; have b2 := cell_blk (i := 2) hb2 rfl; have b3 := cell_blk (i := 3) hb2 rfl; have b4 := cell_blk (i := 4) hb2 rfl; have b5 := cell_blk (i := 5) hb2 rfl; have b6 := cell_blk (i := 6) hb2 rfl; have b7 := cell_blk (i := 7) hb2 rfl; have b8 := cell_blk (i := 8) hb2 rfl; have HE2 := hid (HEA.out.upd hu2); have hp0 := cell_blk (i := 0) HE2.out.bp rfl; have hcall := HPI.out _ w2 d _ _ ((HR.out.upd HUA.out).upd hu2) HE2.out hw2 hdm3 hdm4 hdm2 hL2; have HU2 := hid hu2; clear hb2 hu2 hw2)
        go_wp2_with (go_at_call 96; refine hcall.mono ?_; clear hcall; rintro e w3 ⟨rfl, hw3, hu3⟩)
        go_roundw
        case rel => exact ⟨i + 1, by omega, by go_num, hid (by
          rw [HT.out, HWl2.out, HDl.out, ← List.append_assoc, ← List.append_assoc]
          rw [show max m (d + max (partsD asked (ps.take i)) (askD ps[i] asked)) = max (max m (d + partsD asked (ps.take i))) (d + askD ps[i] asked) by omega]
          exact hw3), HU.out.trans (HUA.out.trans (HU2.out.trans hu3))⟩
        case measure => simp [RowKit.intOf]; omega
    · obtain rfl : i = ps.length := by omega
      go_wp2
      go_end0
      have hw := HW.out
      rw [List.take_length] at hw
      exact ⟨rfl, hw, HU.out⟩
end Go.Proofs.YtfljcfdfgojdoaaGreatDoor.Sh

namespace Go.Proofs.YtfljcfdfgojdoaaGreatDoor.Sh
open Go.RowKit Go.Lib Go.Proofs.YtfljcfdfgojdoaaGreatDoor

theorem Node.short {k : Int} {x : List B} {s : Se} {n : Nat} {mn mx : Int} (h : Node k x s n mn mx) : x.length ≤ 1000 := by
  cases h <;> first | (simp; done) | omega
theorem askW_own {r : Re} {asked : Nat} (h : ¬ lev r < asked) : askW setS r asked = reW setS r ∧ askD r asked = reD r := by
  unfold askW askD
  rw [if_neg h, if_neg h]
  exact ⟨rfl, rfl⟩
theorem str_size (l : List B) : (⟨l.toArray⟩ : ByteArray).size = l.length := by show l.toArray.size = _; simp
/-- the nine cells of an expression in a block, in a world -/
def Nine (W : World) (g : Nat) (k : Int) (x : List B) (s : Se) (v : Value) (mn mx : Int) : Prop :=
  W.cell? ⟨g, 0, none⟩ = some (.int .i64 k) ∧ W.cell? ⟨g, 1, none⟩ = some (.string ⟨x.toArray⟩) ∧ W.cell? ⟨g, 2, none⟩ = some (.int .u64 s.a) ∧ W.cell? ⟨g, 3, none⟩ = some (.int .u64 s.b) ∧ W.cell? ⟨g, 4, none⟩ = some (.int .u64 s.c) ∧ W.cell? ⟨g, 5, none⟩ = some (.int .u64 s.d) ∧ W.cell? ⟨g, 6, none⟩ = some v ∧ W.cell? ⟨g, 7, none⟩ = some (.int .i64 mn) ∧ W.cell? ⟨g, 8, none⟩ = some (.int .i64 mx)
theorem nine_of {W : World} {g : Nat} {k : Int} {x : List B} {s : Se} {v : Value} {mn mx : Int} (h : W.heap[g]? = some (.cells (reC k x s v mn mx) 33 (0, 0))) : Nine W g k x s v mn mx :=
  ⟨cell_blk h rfl, cell_blk h rfl, cell_blk h rfl, cell_blk h rfl, cell_blk h rfl, cell_blk h rfl, cell_blk h rfl, cell_blk h rfl, cell_blk h rfl⟩

set_option maxRecDepth 100000 in
set_option maxHeartbeats 1000000 in
theorem part_leaf {P Bw Bp Bj : Nat} {k : Int} {x : List B} {s : Se} (hn : Node k x s 0 0 0) (hk : k = 1 ∨ k = 2 ∨ k = 3) (hs : SeOk s) {asked : Nat} (ha : asked ≤ 5) : PartOk P Bw Bp Bj (.mk k x s [] 0 0) asked := by
  intro cs w d m l hr hE hW hdm hD hm hL
  obtain ⟨ad, cap, rfl, _, _⟩ := hr.open
  have hlv : ¬ lev (.mk k x s [] 0 0) < asked := by
    show ¬ levK k < asked
    rcases hk with rfl | rfl | rfl <;> exact Nat.not_lt.2 ha
  obtain ⟨e1, e2⟩ := askW_own hlv
  have e3 : reW setS (.mk k x s [] 0 0) = leafW setS k x s := by
    rw [reW]
    rcases hk with rfl | rfl | rfl <;> rfl
  have e4 : reD (.mk k x s [] 0 0) = 0 := by
    rw [reD]
    rcases hk with rfl | rfl | rfl <;> rfl
  rw [e1, e3] at hL
  rw [e1, e2, e3, e4]
  have HQ := hid (show WPost P w d (max m (d + 0)) (l ++ leafW setS k x s) = WPost P w d m (l ++ leafW setS k x s) by rw [Nat.add_zero, Nat.max_eq_left hdm])
  rw [HQ.out]
  have hlf := leaf_any (k := k) (x := x) (s := s) (.slice ad 0 cap) 0 0
  have HN := hid (And.intro hk (And.intro hs (Node.short hn)))
  have hlv2 : ((levK k : Nat) : Int) = 5 := by rcases hk with rfl | rfl | rfl <;> rfl
  have hk1 : (k == 5) = false := by rcases hk with rfl | rfl | rfl <;> rfl
  have hk2 : (k == 6) = false := by rcases hk with rfl | rfl | rfl <;> rfl
  have hk3 : (k == 4) = false := by rcases hk with rfl | rfl | rfl <;> rfl
  have hk4 : (k == 7) = false := by rcases hk with rfl | rfl | rfl <;> rfl
  have hk5 : (k == 8) = false := by rcases hk with rfl | rfl | rfl <;> rfl
  have ha' : ¬ ((5 : Int) < (asked : Int)) := by omega
  have HW := hid hW
  have HE := hid hE
  have hlev := level_any k x s (.slice ad 0 cap) 0 0
  rw [hlv2] at hlev
  have hPw := hW.lt
  have HU0 := hid ((Upd.refl P w).alloc (.cells (reC k x s (.slice ad 0 cap) 0 0) 33))
  have HW0 := hid (hW.alloc (.cells (reC k x s (.slice ad 0 cap) 0 0) 33))
  have hb0 : (w.alloc (.cells (reC k x s (.slice ad 0 cap) 0 0) 33)).heap[w.heap.size]? = some (.cells (reC k x s (.slice ad 0 cap) 0 0) 33 (0, 0)) := heap_alloc_new _ _
  have HFACT := hid (show ∀ W : World, Upd P (w.alloc (.cells (reC k x s (.slice ad 0 cap) 0 0) 33)) W → Nine W w.heap.size k x s (.slice ad 0 cap) 0 0 ∧ W.cell? ⟨Bw, 0, none⟩ = some (ptrV P) from fun W hu =>
    ⟨nine_of (hu.row hb0 (by decide) (by omega)), cell_blk (HE.out.upd (HU0.out.trans hu)).bw rfl⟩)
  obtain ⟨⟨c0, c1, c2, c3, c4, c5, c6, c7, c8⟩, _⟩ := HFACT.out _ (Upd.refl _ _)
  clear hr hE hW hn hk hs hlv e1 e2 e3 e4 hD HQ hlv2 hb0
  go_enter Tryz.func96, Tryz.ntmps96
  go_upto_region 1 with fail
  generalize w.alloc (.cells (reC k x s (.slice ad 0 cap) 0 0) 33) = W0 at *
  go_upto_region 4 with (go_at_call 97; refine (hlev _).mono ?_; clear hlev; rintro e W1 ⟨rfl, hb1⟩; have HU1 := hid (Upd.below (Upd.refl P W0) hb1); have HW1 := hid (HW0.out.below hb1); clear hb1 c0 c1 c2 c3 c4 c5 c6 c7 c8; obtain ⟨⟨c0, c1, c2, c3, c4, c5, c6, c7, c8⟩, cw⟩ := HFACT.out _ HU1.out)
  have HFQ := hid (show ∀ W : World, Upd P W0 W → W.cell? ⟨Bw, 0, none⟩ = some (ptrV P) ∧ Nine W w.heap.size k x s (.slice ad 0 cap) 0 0 from fun W h => ⟨(HFACT.out W h).2, (HFACT.out W h).1⟩)
  have HUD := hid HU1.out.drew
  have HWD := hid (show SW P W1.drew d m l from by obtain ⟨v, h1, h2⟩ := HW1.out; exact ⟨v, h1, h2⟩)
  have hlff := fun W => hlf W HN.out.1 HN.out.2.1 HN.out.2.2
  go_region_held3 (fun W => W.cell? ⟨Bw, 0, none⟩ = some (ptrV P) ∧ W.cell? ⟨w.heap.size, 0, none⟩ = some (.int .i64 k) ∧ W.cell? ⟨w.heap.size, 1, none⟩ = some (.string ⟨x.toArray⟩) ∧ W.cell? ⟨w.heap.size, 2, none⟩ = some (.int .u64 s.a) ∧ W.cell? ⟨w.heap.size, 3, none⟩ = some (.int .u64 s.b) ∧ W.cell? ⟨w.heap.size, 4, none⟩ = some (.int .u64 s.c) ∧ W.cell? ⟨w.heap.size, 5, none⟩ = some (.int .u64 s.d) ∧ W.cell? ⟨w.heap.size, 6, none⟩ = some (.slice ad 0 cap) ∧ W.cell? ⟨w.heap.size, 7, none⟩ = some (.int .i64 0) ∧ W.cell? ⟨w.heap.size, 8, none⟩ = some (.int .i64 0)) (first | exact HFQ.out _ HU3.out | exact HFQ.out _ HU2.out | exact HFQ.out _ HUD.out | exact HFQ.out _ HU1.out)
    ((first | (go_at_call 103; refine (hlff _).mono ?_; clear hlff; rintro e W2 ⟨rfl, hb2⟩; have HU2 := hid (Upd.below HUD.out hb2); have HW2 := hid (HWD.out.below hb2); clear hb2) | (go_at_call 86; refine (put_any ⟨(leafW setS k x s).toArray⟩ HW2.out (by rw [str_size]; omega)).mono ?_; rintro e W3 ⟨rfl, hw3, hu3⟩; have HU3 := hid (HU2.out.trans hu3); have HW3 := hid hw3; clear hu3 hw3)))
  all_goals
    go_wp2
    go_end0
    exact ⟨rfl, HW3.out, HU0.out.trans HU3.out⟩

set_option maxRecDepth 100000 in
set_option maxHeartbeats 1000000 in
theorem part_row {P Bw Bp Bj : Nat} {k : Int} (hk : k = 4 ∨ k = 5 ∨ k = 6) (ps : List Re) (hp : ∀ p ∈ ps, PartOk P Bw Bp Bj p (needK k)) {asked : Nat} (ha : ¬ levK k < asked) : PartOk P Bw Bp Bj (.mk k [] Se.none ps 0 0) asked := by
  intro cs w d m l hr hE hW hdm hD hm hL
  obtain ⟨ad, cap, rfl, hlen, hps⟩ := hr.open
  have hlv : ¬ lev (.mk k [] Se.none ps 0 0) < asked := ha
  obtain ⟨e1, e2⟩ := askW_own hlv
  have e3 : reW setS (.mk k [] Se.none ps 0 0) = partsW setS (sepK k) (needK k) ps := by
    rw [reW]
    rcases hk with rfl | rfl | rfl <;> rfl
  have e4 : reD (.mk k [] Se.none ps 0 0) = partsD (needK k) ps := by
    rw [reD]
    rcases hk with rfl | rfl | rfl <;> rfl
  rw [e1, e3] at hL
  rw [e2, e4] at hD
  rw [e1, e2, e3, e4]
  have ha' : ¬ ((levK k : Int) < (asked : Int)) := by omega
  have hlev := level_any k [] Se.none (.slice ad ps.length cap) 0 0
  have HW := hid hW
  have HE := hid hE
  have hPw := hW.lt
  have HU0 := hid ((Upd.refl P w).alloc (.cells (reC k [] Se.none (.slice ad ps.length cap) 0 0) 33))
  have HW0 := hid (hW.alloc (.cells (reC k [] Se.none (.slice ad ps.length cap) 0 0) 33))
  have hb0 : (w.alloc (.cells (reC k [] Se.none (.slice ad ps.length cap) 0 0) 33)).heap[w.heap.size]? = some (.cells (reC k [] Se.none (.slice ad ps.length cap) 0 0) 33 (0, 0)) := heap_alloc_new _ _
  have HFACT := hid (show ∀ W : World, Upd P (w.alloc (.cells (reC k [] Se.none (.slice ad ps.length cap) 0 0) 33)) W → Nine W w.heap.size k [] Se.none (.slice ad ps.length cap) 0 0 ∧ W.cell? ⟨Bj, 0, none⟩ = some (.func (.func 95) #[] #[ptrV Bw, ptrV Bp]) from fun W hu =>
    ⟨nine_of (hu.row hb0 (by decide) (by omega)), cell_blk (HE.out.upd (HU0.out.trans hu)).bj rfl⟩)
  have HPS := hid (show ∀ W : World, Upd P w W → ps ≠ [] → ∃ g off, ad = some ⟨g, off, none⟩ ∧ g < P ∧ PartsG (fun g => g < P) W g off ps from fun W hu hne => by
    obtain ⟨g, off, h1, h2, h3⟩ := hps hne
    exact ⟨g, off, h1, h2, h3.frame (fun _ h => h) (fun g hg hl => hu.block g hl (by omega) (.inl hg)) h2⟩)
  have HJ := hid (show ∀ (W : World) (sep : ByteArray) (n : Nat), sep.data.toList = sepK k → n = needK k → Upd P w W → SW P W d m l → Calls Tryz.prog 95 #[.slice ad ps.length cap, .string sep, .int .i64 n, ptrV Bw, ptrV Bp] W (WPost P W d (max m (d + partsD (needK k) ps)) (l ++ partsW setS (sepK k) (needK k) ps)) from fun W sep n h1 h2 hu hw => by
    rw [← h1] at hL ⊢
    subst h2
    exact join_any ps (needK k) sep hp hlen (HPS.out W hu) (HE.out.upd hu) hw hdm hD hm hL)
  obtain ⟨⟨c0, c1, c2, c3, c4, c5, c6, c7, c8⟩, _⟩ := HFACT.out _ (Upd.refl _ _)
  unfold maxLen at hlen
  clear hr hE hW hlv e1 e2 e3 e4 hD hL hb0 hp hps ha HPS
  rcases hk with rfl | rfl | rfl
  · have HJ4 := hid (fun W => HJ.out W ⟨#[32]⟩ 3 rfl rfl)
    clear HJ
    go_enter Tryz.func96, Tryz.ntmps96
    go_upto_region 1 with fail
    generalize w.alloc (.cells (reC 4 [] Se.none (.slice ad ps.length cap) 0 0) 33) = W0 at *
    go_wp2_with (first | (go_at_call 97; refine (hlev _).mono ?_; clear hlev; rintro e W1 ⟨rfl, hb1⟩; have HU1 := hid (Upd.below (Upd.refl P W0) hb1); have HW1 := hid (HW0.out.below hb1); clear hb1 c0 c1 c2 c3 c4 c5 c6 c7 c8; obtain ⟨⟨c0, c1, c2, c3, c4, c5, c6, c7, c8⟩, cj⟩ := HFACT.out _ HU1.out) | (go_at_call 95; refine (HJ4.out W1 (HU0.out.trans HU1.out) HW1.out).mono ?_; rintro e W2 ⟨rfl, hw2, hu2⟩))
    go_end0
    exact ⟨rfl, hw2, HU0.out.trans (HU1.out.trans hu2)⟩
  · have HJ4 := hid (fun W => HJ.out W ⟨#[32, 124, 32]⟩ 1 rfl rfl)
    clear HJ
    go_enter Tryz.func96, Tryz.ntmps96
    go_upto_region 1 with fail
    generalize w.alloc (.cells (reC 5 [] Se.none (.slice ad ps.length cap) 0 0) 33) = W0 at *
    go_wp2_with (first | (go_at_call 97; refine (hlev _).mono ?_; clear hlev; rintro e W1 ⟨rfl, hb1⟩; have HU1 := hid (Upd.below (Upd.refl P W0) hb1); have HW1 := hid (HW0.out.below hb1); clear hb1 c0 c1 c2 c3 c4 c5 c6 c7 c8; obtain ⟨⟨c0, c1, c2, c3, c4, c5, c6, c7, c8⟩, cj⟩ := HFACT.out _ HU1.out) | (go_at_call 95; refine (HJ4.out W1 (HU0.out.trans HU1.out) HW1.out).mono ?_; rintro e W2 ⟨rfl, hw2, hu2⟩))
    go_end0
    exact ⟨rfl, hw2, HU0.out.trans (HU1.out.trans hu2)⟩
  · have HJ4 := hid (fun W => HJ.out W ⟨#[32, 38, 32]⟩ 2 rfl rfl)
    clear HJ
    go_enter Tryz.func96, Tryz.ntmps96
    go_upto_region 1 with fail
    generalize w.alloc (.cells (reC 6 [] Se.none (.slice ad ps.length cap) 0 0) 33) = W0 at *
    go_wp2_with (first | (go_at_call 97; refine (hlev _).mono ?_; clear hlev; rintro e W1 ⟨rfl, hb1⟩; have HU1 := hid (Upd.below (Upd.refl P W0) hb1); have HW1 := hid (HW0.out.below hb1); clear hb1 c0 c1 c2 c3 c4 c5 c6 c7 c8; obtain ⟨⟨c0, c1, c2, c3, c4, c5, c6, c7, c8⟩, cj⟩ := HFACT.out _ HU1.out) | (go_at_call 95; refine (HJ4.out W1 (HU0.out.trans HU1.out) HW1.out).mono ?_; rintro e W2 ⟨rfl, hw2, hu2⟩))
    go_end0
    exact ⟨rfl, hw2, HU0.out.trans (HU1.out.trans hu2)⟩
end Go.Proofs.YtfljcfdfgojdoaaGreatDoor.Sh
