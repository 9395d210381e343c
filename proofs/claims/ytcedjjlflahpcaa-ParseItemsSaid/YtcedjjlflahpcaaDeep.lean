/-
  deep returns false at an expression in memory of no more than so many levels.
-/
import Derived.Test.YtcedjjlflahpcaaSame
namespace Go.Proofs.Ytcedjjlflahpcaa
open Go.RowKit Go.Lib

/-- no more than so many expressions stand one in the other -/
def Fits : Nat → Re → Prop
  | 0, _ => False
  | n + 1, .mk _ _ _ ps _ _ => ∀ p ∈ ps, Fits n p

set_option maxRecDepth 100000 in
set_option maxHeartbeats 2000000 in
theorem deep_no : ∀ (m : Nat) (r : Re), Fits m r → m ≤ 1000000 → ∀ (F : Nat → Prop) (cs : Array Value) (w : World), ReIn F w r cs →
    Calls Try.prog 15 #[.agg cs, .int .i64 m] w fun e w' => e = .returned (.bool false) ∧ Below w.heap.size w w' := by
  intro m
  induction m with
  | zero => intro r h; exact absurd h (by simp [Fits])
  | succ m ih =>
    intro r hf hm F cs w h
    obtain ⟨k, x, s, ps, mn, mx⟩ := r
    obtain ⟨ad, cap, rfl, ho⟩ := h.open
    have HF : Hid (∀ p ∈ ps, Fits m p) := hid (by simpa [Fits] using hf)
    have IH := hid ih
    have HO := hid ho
    clear h ih hf ho
    have hlen : ps.length ≤ 9223372036854775807 := by
      rcases HO.out with ⟨h, _⟩ | ⟨g, _, _, h1, h2, _⟩
      · rw [h]; simp
      · unfold maxLen at h2; omega
    have hm0 : (((m + 1 : Nat) : Int) == 0) = false := by rw [beq_eq_false_iff_ne]; omega
    go_enter Try.func15, Try.ntmps15
    go_wp2
    have hb0 : Below w.heap.size w (w.alloc (.cells (reC k x s (.slice ad ps.length cap) mn mx) 27)) := ((Below.refl _ w).alloc (Nat.le_refl _) _)
    go_loopw [12] (fun v wr => ∃ i : Nat, i ≤ ps.length ∧ v = .int .i64 i ∧ Below (w.heap.size + 1) (w.alloc (.cells (reC k x s (.slice ad ps.length cap) mn mx) 27)) wr) (fun v _ => ps.length - (intOf v).toNat)
    case atStart => exact ⟨0, Nat.zero_le _, rfl, Below.refl _ _⟩
    case round =>
      obtain ⟨i, hi, rfl, hb⟩ := hrel
      have hwr : Below w.heap.size w wr := hb0.trans (hb.mono (by omega))
      have hsz : w.heap.size + 1 ≤ wr.heap.size := by have := hb.size; simp at this; omega
      by_cases hlt : i < ps.length
      · obtain ⟨g, rfl, hgl, hcap, hcm, hparts⟩ := HO.out.resolve_left (by rintro ⟨h, _⟩; rw [h] at hlt; simp at hlt)
        obtain ⟨k1, x1, s1, ad1, n1, cap1, mn1, mx1, hr1, hc⟩ := hparts i ps[i] (List.getElem?_eq_getElem hlt)
        have low : ∀ (j : Nat) (q : Nat), q < w.heap.size → ∀ {v : Value}, w.cell? ⟨q, i * 9 + j, none⟩ = some v → wr.cell? ⟨q, i * 9 + j, none⟩ = some v := fun j q hq v h => (hwr.cell (p := ⟨q, i * 9 + j, none⟩) hq).trans h
        have a0 : wr.cell? ⟨g, i * 9, none⟩ = _ := low 0 g hgl (hc 0 _ rfl)
        have a1 := low 1 g hgl (hc 1 _ rfl)
        have a2 := low 2 g hgl (hc 2 _ rfl)
        have a3 := low 3 g hgl (hc 3 _ rfl)
        have a4 := low 4 g hgl (hc 4 _ rfl)
        have a5 := low 5 g hgl (hc 5 _ rfl)
        have a6 := low 6 g hgl (hc 6 _ rfl)
        have a7 := low 7 g hgl (hc 7 _ rfl)
        have a8 := low 8 g hgl (hc 8 _ rfl)
        have hq1 := hid (hr1.frame (F' := F) (w' := wr) (fun _ h _ => h) (fun q _ hq => hwr.block q hq))
        have hfi := HF.out _ (List.getElem_mem hlt)
        have hgi : (i : Int) < (ps.length : Int) := by omega
        clear hparts hc low hr1
        have hd1 := ReIn.frame (F := F) (F' := F) (w := wr) (w' := wr.alloc (.cells (reC k1 x1 s1 (.slice ad1 n1 cap1) mn1 mx1) 27)) (fun _ h _ => h) (fun q _ hq => alloc_old hq) hq1.out
        go_wp2_with (go_at_call 15; refine (IH.out _ hfi (by omega) F _ _ hd1).mono ?_; rintro e w3 ⟨rfl, hb3⟩)
        go_roundw
        case rel => exact ⟨i + 1, by omega, by go_num, (hb.alloc (by omega) _).trans (hb3.mono (by simp; omega))⟩
        case measure => simp [intOf]; omega
      · obtain rfl : i = ps.length := by omega
        go_wp2
        go_ret
        exact ⟨rfl, hwr⟩
end Go.Proofs.Ytcedjjlflahpcaa
