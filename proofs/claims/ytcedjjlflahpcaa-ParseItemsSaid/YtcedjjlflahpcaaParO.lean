/-
  The contract of parse.Re: it hands back what the plain function parseRe says, for a text of no more than 65536 bytes.
-/
import Derived.Test.YtcedjjlflahpcaaParN
namespace Go.Proofs.Ytcedjjlflahpcaa
open Go.RowKit Go.Lib

theorem readRe_any (s : ByteArray) (w : World) (hs : s.size ≤ 65536) :
    Calls Try.prog 12 #[.string s, .func (.func 13) #[] #[]] w (ReadPost s w (parseRe s)) := by
  rcases hx : allT s with ⟨p, x⟩ | l
  · have h : parseRe s = .error ((p : Int), x) := by unfold parseRe; rw [hx]
    rw [h]
    exact readRe_lex s w hs _ hx
  · have h : parseRe s = closeM (toksOf s l) (altM notNone (toksOf s l) 33 0 0) := by unfold parseRe; rw [hx]
    rw [h]
    exact readRe_ok s w hs hx
theorem ReadPost.bad {s : ByteArray} {w w' : World} {e : Ending} {X : Except (Int × Int) Re} (h : ReadPost s w X e w') {p y : Int} (hx : X = .error (p, y)) :
    Below w.heap.size w w' ∧ e = .returned (.tuple #[.agg reZ, .int .i64 p, .int .i64 y]) := by
  subst hx; exact h
theorem ReadPost.good {s : ByteArray} {w w' : World} {e : Ending} {X : Except (Int × Int) Re} (h : ReadPost s w X e w') {r : Re} (hx : X = .ok r) :
    Below w.heap.size w w' ∧ ∃ k x t ad n cap mn mx, e = .returned (.tuple #[.agg (reC k x t (.slice ad n cap) mn mx), .int .i64 s.size, .int .i64 0]) ∧ ReAt w.heap.size w' r (reC k x t (.slice ad n cap) mn mx) := by
  subst hx
  obtain ⟨hb, cs, rfl, hr⟩ := h
  obtain ⟨kk, x, s1, ad, n, cap2, mn, mx, rfl⟩ := hr.cells
  exact ⟨hb, kk, x, s1, ad, n, cap2, mn, mx, rfl, hr⟩
theorem reZ_shape : reZ = reC 0 [] Se.none (.slice none 0 0) 0 0 := rfl

set_option maxRecDepth 100000 in
set_option maxHeartbeats 1000000 in
theorem parse_any (s : ByteArray) (w : World) (hs : s.size ≤ 65536) :
    Calls Try.prog 6 #[.string s] w (ReadPost s w (parseRe s)) := by
  have h0 : ∀ {w1 : World}, Below (w.alloc (.cells reZ 27)).heap.size (w.alloc (.cells reZ 27)) w1 → w1.heap[w.heap.size]? = some (.cells reZ 27 (0, 0)) := fun hb => (hb.block _ (by simp)).trans (heap_alloc_new _ _)
  have hlow : ∀ {w1 : World} (cs : Array Value), Below (w.alloc (.cells reZ 27)).heap.size (w.alloc (.cells reZ 27)) w1 → Below w.heap.size w (w1.setRow w.heap.size cs) := fun cs hb => Below.row (((Below.refl _ w).alloc (Nat.le_refl _) _).trans (hb.mono (by simp))) (Nat.le_refl _) cs
  rcases hx : parseRe s with ⟨p, y⟩ | r
  · have HX := hid hx
    rw [← hx]
    clear hx
    go_enter Try.func6, Try.ntmps6
    go_wp2_with (first | (go_at_call 12; refine (readRe_any s _ hs).mono ?_; rintro e w1 hp; obtain ⟨hb, rfl⟩ := hp.bad HX.out) | (refine wpList_store_blk rfl 27 (.tmp 2) (.tmp 7) rfl 9 info27 w.heap.size 27 reZ (h0 hb) rfl reZ rfl rfl rfl rfl ?_))
    refine bodyPost_ret (results_cell3 rfl _ _ w.heap.size 27 _ (0, 0) _ rfl (setRow_heap (h0 hb) _) Try.underlying27 rfl info27) rfl ?_
    refine ⟨hlow _ hb, ?_⟩
    rw [HX.out]
    rfl
  · have HX := hid hx
    rw [← hx]
    clear hx
    go_enter Try.func6, Try.ntmps6
    go_wp2_with (first | (go_at_call 12; refine (readRe_any s _ hs).mono ?_; rintro e w1 hp; obtain ⟨hb, k, x, t, ad, n, cap, mn, mx, rfl, hr⟩ := hp.good HX.out) | (refine wpList_store_blk rfl 27 (.tmp 2) (.tmp 7) rfl 9 info27 w.heap.size 27 reZ (h0 hb) rfl (reC k x t (.slice ad n cap) mn mx) rfl rfl rfl rfl ?_))
    refine bodyPost_ret (results_cell3 rfl _ _ w.heap.size 27 _ (0, 0) _ rfl (setRow_heap (h0 hb) _) Try.underlying27 rfl info27) rfl ?_
    refine ⟨hlow _ hb, ?_⟩
    rw [HX.out]
    refine ⟨_, rfl, hr.frame (fun g hg _ => by simp at hg; omega) (fun g hg _ => setRow_other _ (by simp at hg; omega))⟩
end Go.Proofs.Ytcedjjlflahpcaa
