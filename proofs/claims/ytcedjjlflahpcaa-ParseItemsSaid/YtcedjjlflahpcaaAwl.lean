/-
  awake returns true.
-/
import Derived.Test.YtcedjjlflahpcaaAwk
namespace Go.Proofs.Ytcedjjlflahpcaa
open Go.RowKit Go.Lib

theorem mkNode {F : Nat → Prop} {w : World} {g : Nat} {k : Int} {x : List B} {s : Se} {ps : List Re} {mn mx : Int} {cur : Array Value} (hg : w.heap[g]? = some (.cells cur 27 (0, 0))) (hF : F g) (hp : PartsIn F w ps cur.toList) (hc : cur.size = ps.length * 9) (hl : ps.length ≤ maxLen) :
    ReIn F w (.mk k x s ps mn mx) (reC k x s (.slice (some ⟨g, 0, none⟩) ps.length ps.length) mn mx) := by
  unfold ReIn
  refine ⟨_, _, cur.toList, rfl, ⟨hc, .inr ⟨g, ps.length, cur, rfl, Nat.zero_le _, hg, Nat.le_refl _, hl, hc, ?_⟩⟩, fun q hq => ?_, hp⟩
  · rw [← hc]; exact List.take_of_length_le (Nat.le_refl _)
  · simp [Value.ownBlock] at hq; subst hq; exact hF

abbrev A0 : Array Value := reC 2 [] bSet (.slice none 0 0) 0 0
abbrev A1 (N : Nat) : Array Value := reC 8 [] Se.none (.slice (some ⟨N, 0, none⟩) 1 1) 0 (-1)
abbrev A2 (N : Nat) : Array Value := #[.int .i64 1, .string ⟨#[97]⟩, .int .u64 0, .int .u64 0, .int .u64 0, .int .u64 0, .slice none 0 0, .int .i64 0, .int .i64 0, .int .i64 8, .string ⟨#[]⟩, .int .u64 0, .int .u64 0, .int .u64 0, .int .u64 0, .slice (some ⟨N, 0, none⟩) 1 1, .int .i64 0, .int .i64 (-1)]
abbrev A3 (N : Nat) : Array Value := reC 4 [] Se.none (.slice (some ⟨N + 1 + 1, 0, none⟩) 2 2) 0 0
abbrev A4 : Array Value := reC 3 [120] Se.none (.slice none 0 0) 0 0
abbrev A5 (N : Nat) : Array Value := reC 7 [] Se.none (.slice (some ⟨N + 1 + 1 + 1 + 1, 0, none⟩) 1 1) 0 0
abbrev A6 (N : Nat) : Array Value := #[.int .i64 4, .string ⟨#[]⟩, .int .u64 0, .int .u64 0, .int .u64 0, .int .u64 0, .slice (some ⟨N + 1 + 1, 0, none⟩) 2 2, .int .i64 0, .int .i64 0, .int .i64 7, .string ⟨#[]⟩, .int .u64 0, .int .u64 0, .int .u64 0, .int .u64 0, .slice (some ⟨N + 1 + 1 + 1 + 1, 0, none⟩) 1 1, .int .i64 0, .int .i64 0]
abbrev awW6 (w : World) : World := (((((w.alloc (.cells A0 27)).alloc (.cells (A1 w.heap.size) 27)).alloc (.cells (A2 w.heap.size) 27)).alloc (.cells (A3 w.heap.size) 27)).alloc (.cells A4 27)).alloc (.cells (A5 w.heap.size) 27)
abbrev awW (w : World) : World := (awW6 w).alloc (.cells (A6 w.heap.size) 27)
theorem heap_push (w : World) (o : Obj) : (w.alloc o).heap = w.heap.push o := rfl
theorem aw6_below (w : World) : Below w.heap.size w (awW6 w) := by
  unfold awW6
  repeat (first | exact Below.refl _ _ | refine Below.alloc ?_ (by simp; try omega) _)
theorem aw_below (w : World) : Below w.heap.size w (awW w) := (aw6_below w).alloc (by simp; omega) _
theorem aw_tree (w : World) : ReIn (fun _ => True) (awW w) awRe (reC 5 [] Se.none (.slice (some ⟨w.heap.size + 1 + 1 + 1 + 1 + 1 + 1, 0, none⟩) 2 2) 0 0) := by
  have b0 : (awW w).heap[w.heap.size]? = some (.cells A0 27 (0, 0)) := by
    simp only [heap_push, Array.getElem?_push, Array.size_push]
    simp
    repeat rw [if_neg (by omega)]
  have b2 : (awW w).heap[w.heap.size + 1 + 1]? = some (.cells (A2 w.heap.size) 27 (0, 0)) := by simp only [heap_push, Array.getElem?_push, Array.size_push]; simp
  have b4 : (awW w).heap[w.heap.size + 1 + 1 + 1 + 1]? = some (.cells A4 27 (0, 0)) := by simp only [heap_push, Array.getElem?_push, Array.size_push]; simp
  have b6 : (awW w).heap[w.heap.size + 1 + 1 + 1 + 1 + 1 + 1]? = some (.cells (A6 w.heap.size) 27 (0, 0)) := by simp only [heap_push, Array.getElem?_push, Array.size_push]; simp
  generalize awW w = W at *
  have t0 : ReIn (fun _ => True) W (.mk 2 [] bSet [] 0 0) A0 := ReIn.leaf _ _ _ _ _ _ _
  have t1 : ReIn (fun _ => True) W awStar (A1 w.heap.size) := mkNode (ps := [.mk 2 [] bSet [] 0 0]) b0 trivial (by unfold PartsIn PartsIn; exact ⟨A0, [], rfl, t0, rfl⟩) rfl (by simp [maxLen])
  have ta : ReIn (fun _ => True) W (.mk 1 [97] Se.none [] 0 0) (reC 1 [97] Se.none (.slice none 0 0) 0 0) := ReIn.leaf _ _ _ _ _ _ _
  have t3 : ReIn (fun _ => True) W awOne (A3 w.heap.size) := mkNode (ps := [.mk 1 [97] Se.none [] 0 0, awStar]) b2 trivial (by unfold PartsIn PartsIn PartsIn; exact ⟨_, _, rfl, ta, _, [], rfl, t1, rfl⟩) rfl (by simp [maxLen])
  have tx : ReIn (fun _ => True) W (.mk 3 [120] Se.none [] 0 0) A4 := ReIn.leaf _ _ _ _ _ _ _
  have t5 : ReIn (fun _ => True) W awTwo (A5 w.heap.size) := mkNode (ps := [.mk 3 [120] Se.none [] 0 0]) b4 trivial (by unfold PartsIn PartsIn; exact ⟨A4, [], rfl, tx, rfl⟩) rfl (by simp [maxLen])
  exact mkNode (ps := [awOne, awTwo]) b6 trivial (by unfold PartsIn PartsIn PartsIn; exact ⟨_, _, rfl, t3, _, [], rfl, t5, rfl⟩) rfl (by simp [maxLen])

set_option maxRecDepth 100000 in
set_option maxHeartbeats 1000000 in
theorem awake_any (w : World) : Calls Try.prog 7 #[] w fun e w' => e = .returned (.bool true) ∧ Below w.heap.size w w' := by
  have HP := hid aw_parse
  have e24 := eq24
  have hsz : awText.size ≤ 65536 := by decide
  go_enter Try.func7, Try.ntmps7
  go_upto_region 2 with (go_at_call 6; refine (parse_any awText _ hsz).mono ?_; rintro e w1 hp; obtain ⟨hb1, k, x, t, ad, n, cap, mn, mx, rfl, hr1⟩ := hp.good HP.out; have HR := hid hr1; clear hp hr1)
  have hbox := hid (show ((w1.alloc (.cells (reC k x t (.slice ad n cap) mn mx) 27)).alloc (.cells #[.int .u8 98] 5)).heap[w1.heap.size + 1]? = some (.cells #[.int .u8 98] 5 (0, 0)) by
    have h := heap_alloc_new (w1.alloc (.cells (reC k x t (.slice ad n cap) mn mx) 27)) (.cells #[.int .u8 98] 5)
    simpa using h)
  clear HP hsz
  go_upto_region 5 with (go_at_call 14; go_loud (refine (of_b _ _ hbox.out).mono ?_; rintro e w2 ⟨rfl, hb2⟩))
  have hL : ∀ (W : World), Below w2.heap.size w2 W → W.heap[w1.heap.size]? = some (.cells (reC k x t (.slice ad n cap) mn mx) 27 (0, 0)) := fun W h => (h.block _ (by have := hb2.size; simp at this; omega)).trans ((hb2.block _ (by simp; omega)).trans (heap_alloc2_old _ _ _))
  have hR : ∀ (W : World), Below w2.heap.size w2 W → ReAt w.heap.size W awRe (reC k x t (.slice ad n cap) mn mx) := fun W h => HR.out.frame (fun _ h _ => h) (fun q _ hq => (h.block _ (by have := hb2.size; simp at this; omega)).trans ((hb2.block _ (by simp; omega)).trans ((alloc_old (by simp; omega)).trans (alloc_old hq))))
  have p1 := hid (hL _ (aw6_below w2))
  have ht := hid (aw_tree w2)
  have hq := hid (hR _ (aw_below w2))
  have hbw := hid (aw_below w2)
  have HL := hid hL
  have HRR := hid hR
  clear hL hR
  go_wp2_with (first | (go_at_call 8; go_loud (refine (same_yes _ awRe (Nat.lt_succ_self _) _ _ _ _ _ hq.out ht.out).mono ?_; rintro e w3 ⟨rfl, hb3⟩; have hb3' := hbw.out.trans (hb3.mono (by simp; omega)); have d0 : w3.cell? ⟨w1.heap.size, 0, none⟩ = some (.int .i64 k) := cell_of_row _ _ 0 _ _ _ (HL.out _ hb3'); have d1 : w3.cell? ⟨w1.heap.size, 1, none⟩ = some (.string ⟨x.toArray⟩) := cell_of_row _ _ 1 _ _ _ (HL.out _ hb3'); have d2 : w3.cell? ⟨w1.heap.size, 2, none⟩ = some (.int .u64 t.a) := cell_of_row _ _ 2 _ _ _ (HL.out _ hb3'); have d3 : w3.cell? ⟨w1.heap.size, 3, none⟩ = some (.int .u64 t.b) := cell_of_row _ _ 3 _ _ _ (HL.out _ hb3'); have d4 : w3.cell? ⟨w1.heap.size, 4, none⟩ = some (.int .u64 t.c) := cell_of_row _ _ 4 _ _ _ (HL.out _ hb3'); have d5 : w3.cell? ⟨w1.heap.size, 5, none⟩ = some (.int .u64 t.d) := cell_of_row _ _ 5 _ _ _ (HL.out _ hb3'); have d6 : w3.cell? ⟨w1.heap.size, 6, none⟩ = some (.slice ad n cap) := cell_of_row _ _ 6 _ _ _ (HL.out _ hb3'); have d7 : w3.cell? ⟨w1.heap.size, 7, none⟩ = some (.int .i64 mn) := cell_of_row _ _ 7 _ _ _ (HL.out _ hb3'); have d8 : w3.cell? ⟨w1.heap.size, 8, none⟩ = some (.int .i64 mx) := cell_of_row _ _ 8 _ _ _ (HL.out _ hb3'))) | (refine wpList_load_blk rfl 27 (.tmp 1) rfl 9 info27 _ Try.underlying27 rfl w1.heap.size rfl 27 (reC k x t (.slice ad n cap) mn mx) p1.out rfl ?_) | (go_at_call 9; go_loud (refine (check_ok (aw_ok.up (m := 200) (by omega)) rfl _ _ _ (HRR.out _ hb3')).mono ?_; rintro e w4 ⟨rfl, hb4⟩)))
  go_ret
  have hw2 : Below w.heap.size w w2 := (((hb1.alloc hb1.size _).alloc (by have := hb1.size; simp; omega) _)).trans (hb2.mono (by have := hb1.size; simp; omega))
  have hw3 : Below w.heap.size w w3 := hw2.trans (hb3'.mono hw2.size)
  exact ⟨rfl, hw3.trans (hb4.mono hw3.size)⟩
end Go.Proofs.Ytcedjjlflahpcaa
