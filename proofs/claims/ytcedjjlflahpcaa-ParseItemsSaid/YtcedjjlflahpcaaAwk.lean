/-
  parse.Check tells no fault of an expression that may be; the example of the chapter, parsed by the plain function.
-/
import Derived.Test.YtcedjjlflahpcaaRight
namespace Go.Proofs.Ytcedjjlflahpcaa
open Go.RowKit Go.Lib

abbrev bSet : Se := ⟨0, 17179869184, 0, 0⟩
abbrev awStar : Re := .mk 8 [] Se.none [.mk 2 [] bSet [] 0 0] 0 (-1)
abbrev awOne : Re := .mk 4 [] Se.none [.mk 1 [97] Se.none [] 0 0, awStar] 0 0
abbrev awTwo : Re := .mk 7 [] Se.none [.mk 3 [120] Se.none [] 0 0] 0 0
abbrev awRe : Re := .mk 5 [] Se.none [awOne, awTwo] 0 0
abbrev awText : ByteArray := ⟨#[34, 97, 34, 32, 91, 98, 93, 42, 32, 124, 32, 33, 120]⟩
theorem aw_parse : parseRe awText = .ok awRe := by kernel_rfl
theorem aw_name : NameOk ⟨#[120]⟩ := by
  refine ⟨?_, ?_, ?_, ?_⟩ <;> kernel_rfl
theorem aw_ok : OkRe 5 awRe := by
  have h1 : ∀ n, OkRe (n + 1) (.mk 2 [] bSet [] 0 0) := fun n => by simp only [OkRe]; exact ⟨.set _, by simp⟩
  have h2 : ∀ n, OkRe (n + 1) (.mk 1 [97] Se.none [] 0 0) := fun n => by simp only [OkRe]; exact ⟨.text _ (by simp), by simp⟩
  have h3 : ∀ n, OkRe (n + 1) (.mk 3 [120] Se.none [] 0 0) := fun n => by simp only [OkRe]; exact ⟨.name _ aw_name (by simp), by simp⟩
  have h4 : ∀ n, OkRe (n + 2) awStar := fun n => by
    unfold OkRe
    exact ⟨.rep _ _ (.inl ⟨rfl, .inl rfl⟩), fun p hp => by simp at hp; subst hp; exact h1 n⟩
  have h5 : ∀ n, OkRe (n + 3) awOne := fun n => by
    unfold OkRe
    exact ⟨.cat 2 (by omega), fun p hp => by simp at hp; rcases hp with rfl | rfl; exact h2 _; exact h4 _⟩
  have h6 : ∀ n, OkRe (n + 2) awTwo := fun n => by
    unfold OkRe
    exact ⟨.not, fun p hp => by simp at hp; subst hp; exact h3 n⟩
  unfold OkRe
  exact ⟨.alt 2 (by omega), fun p hp => by simp at hp; rcases hp with rfl | rfl; exact h5 1; exact h6 2⟩

set_option maxRecDepth 100000 in
set_option maxHeartbeats 1000000 in
theorem check_ok {m : Nat} {r : Re} (h : OkRe m r) (hm : m = 200) (F : Nat → Prop) (cs : Array Value) (w : World) (hr : ReIn F w r cs) :
    Calls Try.prog 9 #[.agg cs] w fun e w' => e = .returned (.int .i64 0) ∧ Below w.heap.size w w' := by
  obtain ⟨k, x, s, ad, n, cap, mn, mx, rfl⟩ := hr.cells
  subst hm
  have hr1 := ReIn.frame (F := F) (F' := F) (w := w) (w' := w.alloc (.cells (reC k x s (.slice ad n cap) mn mx) 27)) (fun _ h _ => h) (fun q _ hq => alloc_old hq) hr
  go_enter Try.func9, Try.ntmps9
  go_wp2_with (first | (go_at_call 15; refine (deep_no 200 r h.fits (by omega) F _ _ hr1).mono ?_; rintro e w1 ⟨rfl, hb1⟩; have q0 := (hb1.block w.heap.size (by simp)).trans (heap_alloc_new w (.cells (reC k x s (.slice ad n cap) mn mx) 27)); have hr2 := ReIn.frame (F := F) (F' := F) (w' := w1) (fun _ h _ => h) (fun q _ hq => hb1.block q hq) hr1) | (refine wpList_load_blk rfl 27 (.tmp 1) rfl 9 info27 _ Try.underlying27 rfl w.heap.size rfl 27 (reC k x s (.slice ad n cap) mn mx) q0 rfl ?_) | (go_at_call 16; refine (right_yes 200 r h F _ _ hr2).mono ?_; rintro e w2 ⟨rfl, hb2⟩))
  go_ret
  exact ⟨rfl, bnext (((Below.refl _ w).alloc (Nat.le_refl _) _).trans (hb1.mono (by simp))) hb2⟩
theorem OkRe.up : ∀ {n m : Nat} {r : Re}, OkRe n r → n ≤ m → OkRe m r
  | 0, _, _, h, _ => by simp [OkRe] at h
  | n + 1, 0, _, _, h => by omega
  | n + 1, m + 1, .mk _ _ _ ps _ _, h, hm => by
    simp only [OkRe] at h ⊢
    exact ⟨h.1, fun p hp => OkRe.up (h.2 p hp) (by omega)⟩

set_option maxRecDepth 100000 in
set_option maxHeartbeats 1000000 in
theorem of_b (w : World) (g : Nat) (hg : w.heap[g]? = some (.cells #[.int .u8 98] 5 (0, 0))) :
    Calls Try.prog 14 #[.slice (some ⟨g, 0, none⟩) 1 1] w fun e w' => e = .returned bSet.v ∧ Below w.heap.size w w' := by
  have hl := (Array.getElem?_eq_some_iff.1 hg).1
  have c0 : w.cell? ⟨g, 0, none⟩ = some (.int .u8 98) := cell_of_row _ _ 0 _ _ _ hg
  go_enter Try.func14, Try.ntmps14
  go_wp2
  refine wp_loop_rounds 2 ?_
  rw [rounds_succ]
  go_wp2
  rw [rounds_succ]
  go_wp2
  have hbit : bits .or .u64 0 17179869184 = 17179869184 := by kernel_rfl
  rw [hbit]
  exact bodyPost_ret (v := bSet.v) (by simp [results, Try.results14, go_sem]) rfl ⟨rfl, (((Below.refl _ w).alloc (Nat.le_refl _) _).alloc (by simp) _)⟩
end Go.Proofs.Ytcedjjlflahpcaa
