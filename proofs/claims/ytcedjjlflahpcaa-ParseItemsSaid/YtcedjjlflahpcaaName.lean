/-
  mayBeName and mayBeOften return true where the plain conditions hold.
-/
import Derived.Test.YtcedjjlflahpcaaDeep
namespace Go.Proofs.Ytcedjjlflahpcaa
open Go.RowKit Go.Lib

/-- a text that is a NAME as a whole -/
def NameOk (s : ByteArray) : Prop := (nextL 0 (sfx s 0)).err = 0 ∧ (nextL 0 (sfx s 0)).tok.kind = 1 ∧ (nextL 0 (sfx s 0)).tok.text = s.toList ∧ reservedB s.toList = false

set_option maxRecDepth 100000 in
set_option maxHeartbeats 1000000 in
theorem name_may (s : ByteArray) (w : World) (hs : s.size ≤ 140737488351232) (h : NameOk s) :
    Calls Try.prog 26 #[.string s] w fun e w' => e = .returned (.bool true) ∧ Below w.heap.size w w' := by
  obtain ⟨h1, h2, h3, h4⟩ := h
  have HS := hid hs
  clear hs
  have H4 := hid h4
  clear h4
  generalize hx : nextL 0 (sfx s 0) = x at *
  have HX := hid hx
  clear hx
  obtain ⟨t, nx, er⟩ := x
  obtain ⟨tk, tt, ts, tn, tp⟩ := t
  simp only at h1 h2 h3
  subst h1 h2 h3
  go_enter Try.func26, Try.ntmps26
  go_wp2_with (first | (go_at_call 32; refine (next_at s _ 0 _ rfl (Nat.zero_le _) HS.out).mono ?_; rintro e w1 ⟨rfl, hb1⟩; rw [HX.out]; simp only [Nx.v, Tok.cells]) | (go_at_call 36; refine (reserved_any s _).mono ?_; rintro e w2 ⟨rfl, rfl⟩; rw [← toList_data, H4.out]))
  go_ret
  exact ⟨rfl, bbox hb1 _⟩

set_option maxRecDepth 100000 in
theorem often_may (a b : Int) (w : World) (h : (b = -1 ∧ (a = 0 ∨ a = 1)) ∨ (b ≠ -1 ∧ 0 ≤ a ∧ a ≤ b ∧ b ≤ 64)) :
    Calls Try.prog 27 #[.int .i64 a, .int .i64 b] w fun e w' => e = .returned (.bool true) ∧ w = w' := by
  rcases h with ⟨rfl, rfl | rfl⟩ | ⟨h0, h1, h2, h3⟩
  · go_enter Try.func27, Try.ntmps27
    go_wp2
    go_ret
    exact ⟨rfl, rfl⟩
  · go_enter Try.func27, Try.ntmps27
    go_wp2
    go_ret
    exact ⟨rfl, rfl⟩
  · have hb : (b == -1) = false := by rw [beq_eq_false_iff_ne]; exact h0
    go_enter Try.func27, Try.ntmps27
    go_wp2
    go_ret
    exact ⟨rfl, rfl⟩
end Go.Proofs.Ytcedjjlflahpcaa
