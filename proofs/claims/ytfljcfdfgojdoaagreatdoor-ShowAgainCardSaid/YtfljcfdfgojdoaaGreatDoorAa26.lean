/-
  right returns true at an expression in memory whose every part may stand.
-/
import Derived.Test.YtfljcfdfgojdoaaGreatDoorAa25
namespace Go.Proofs.YtfljcfdfgojdoaaGreatDoor
open Go.RowKit Go.Lib

/-- what may stand in one expression, its parts aside -/
inductive Node : Int → List B → Se → Nat → Int → Int → Prop
  | text (x : List B) (h : x.length ≤ 256) : Node 1 x Se.none 0 0 0
  | set (s : Se) : Node 2 [] s 0 0 0
  | name (x : List B) (h : NameOk ⟨x.toArray⟩) (hx : x.length ≤ 31) : Node 3 x Se.none 0 0 0
  | cat (n : Nat) (h : 2 ≤ n) : Node 4 [] Se.none n 0 0
  | alt (n : Nat) (h : 2 ≤ n) : Node 5 [] Se.none n 0 0
  | and (n : Nat) (h : 2 ≤ n) : Node 6 [] Se.none n 0 0
  | not : Node 7 [] Se.none 1 0 0
  | rep (a b : Int) (h : (b = -1 ∧ (a = 0 ∨ a = 1)) ∨ (b ≠ -1 ∧ 0 ≤ a ∧ a ≤ b ∧ b ≤ 64)) : Node 8 [] Se.none 1 a b
/-- an expression that may be, of no more than so many levels -/
def OkRe : Nat → Re → Prop
  | 0, _ => False
  | n + 1, .mk k x s ps mn mx => Node k x s ps.length mn mx ∧ ∀ p ∈ ps, OkRe n p
theorem OkRe.fits : ∀ {n : Nat} {r : Re}, OkRe n r → Fits n r
  | 0, _, h => by simp [OkRe] at h
  | n + 1, .mk _ _ _ ps _ _, h => by
    simp only [OkRe] at h
    simp only [Fits]
    exact fun p hp => OkRe.fits (h.2 p hp)

set_option maxRecDepth 100000 in
set_option maxHeartbeats 8000000 in
theorem right_yes : ∀ (m : Nat) (r : Re), OkRe m r → ∀ (F : Nat → Prop) (cs : Array Value) (w : World), ReIn F w r cs →
    Calls Tryz.prog 54 #[.agg cs] w fun e w' => e = .returned (.bool true) ∧ Below w.heap.size w w' := by
  intro m
  induction m with
  | zero => intro r h; exact absurd h (by simp [OkRe])
  | succ m ih =>
    intro r hf F cs w h
    obtain ⟨k, x, s, ps, mn, mx⟩ := r
    obtain ⟨ad, cap, rfl, ho⟩ := h.open
    obtain ⟨hnode, hall⟩ : Node k x s ps.length mn mx ∧ ∀ p ∈ ps, OkRe m p := by simpa [OkRe] using hf
    have HF := hid hall
    have IH := hid ih
    have HO := hid ho
    clear h ih hf ho hall
    have hlen : ps.length ≤ 9223372036854775807 := by
      rcases HO.out with ⟨h, _⟩ | ⟨g, _, _, h1, h2, _⟩
      · rw [h]; simp
      · unfold maxLen at h2; omega
    generalize hpl : ps.length = pl at *
    have e24 := eq24
    have n1 : Se.none.a = 0 := rfl
    have n2 : Se.none.b = 0 := rfl
    have n3 : Se.none.c = 0 := rfl
    have n4 : Se.none.d = 0 := rfl
    rcases hnode with ⟨_, hx⟩ | ⟨_⟩ | ⟨_, hnm, hx⟩ | ⟨_, hn⟩ | ⟨_, hn⟩ | ⟨_, hn⟩ | _ | ⟨_, _, hof⟩
    · go_enter Tryz.func54, Tryz.ntmps54
      go_wp2
      go_loopw [91] (fun v wr => ∃ i : Nat, i ≤ ps.length ∧ v = .int .i64 i ∧ Below w.heap.size w wr ∧ w.heap.size + 2 ≤ wr.heap.size) (fun v _ => ps.length - (RowKit.intOf v).toNat)
      case atStart => exact ⟨0, Nat.zero_le _, rfl, (((Below.refl _ w).alloc (Nat.le_refl _) _).alloc (by simp) _), by simp⟩
      case round =>
        obtain ⟨i, hi, rfl, hwr, hsz⟩ := hrel
        obtain rfl : i = 0 := by omega
        go_wp2
        go_ret
        exact ⟨rfl, hwr⟩
    · go_enter Tryz.func54, Tryz.ntmps54
      go_wp2
      go_loopw [91] (fun v wr => ∃ i : Nat, i ≤ ps.length ∧ v = .int .i64 i ∧ Below w.heap.size w wr ∧ w.heap.size + 2 ≤ wr.heap.size) (fun v _ => ps.length - (RowKit.intOf v).toNat)
      case atStart => exact ⟨0, Nat.zero_le _, rfl, (((Below.refl _ w).alloc (Nat.le_refl _) _).alloc (by simp) _), by simp⟩
      case round =>
        obtain ⟨i, hi, rfl, hwr, hsz⟩ := hrel
        obtain rfl : i = 0 := by omega
        go_wp2
        go_ret
        exact ⟨rfl, hwr⟩
    · go_enter Tryz.func54, Tryz.ntmps54
      go_wp2_with (go_at_call 110; refine (name_may _ _ (by show (List.toArray _).size ≤ _; simp; omega) hnm).mono ?_; rintro e w2 ⟨rfl, hb2⟩; have r0 := (hb2.block w.heap.size (by simp; omega)).trans (heap_alloc2_old _ _ _); have r1 := (hb2.block (w.heap.size + 1) (by simp)).trans (heap_alloc2_new _ _ _); have z0 : w2.cell? ⟨w.heap.size, 6, none⟩ = some (.slice ad 0 cap) := cell_of_row _ _ 6 _ _ _ r0; have z1 : w2.cell? ⟨w.heap.size + 1, 1, none⟩ = some (.string ⟨#[]⟩) := cell_of_row _ _ 1 _ _ _ r1; have z2 : w2.cell? ⟨w.heap.size + 1, 2, none⟩ = some (.int .u64 0) := cell_of_row _ _ 2 _ _ _ r1; have z3 : w2.cell? ⟨w.heap.size + 1, 3, none⟩ = some (.int .u64 0) := cell_of_row _ _ 3 _ _ _ r1; have z4 : w2.cell? ⟨w.heap.size + 1, 4, none⟩ = some (.int .u64 0) := cell_of_row _ _ 4 _ _ _ r1; have z5 : w2.cell? ⟨w.heap.size + 1, 5, none⟩ = some (.int .u64 0) := cell_of_row _ _ 5 _ _ _ r1; have z6 : w2.cell? ⟨w.heap.size + 1, 6, none⟩ = some (.slice ad 0 cap) := cell_of_row _ _ 6 _ _ _ r1; have z7 : w2.cell? ⟨w.heap.size + 1, 7, none⟩ = some (.int .i64 0) := cell_of_row _ _ 7 _ _ _ r1; have z8 : w2.cell? ⟨w.heap.size + 1, 8, none⟩ = some (.int .i64 0) := cell_of_row _ _ 8 _ _ _ r1)
      have hsz2 := hb2.size
      have hb2' := (((Below.refl _ w).alloc (Nat.le_refl _) _).alloc (by simp) _).trans (hb2.mono (by simp; omega))
      go_loopw [91] (fun v wr => ∃ i : Nat, i ≤ ps.length ∧ v = .int .i64 i ∧ Below w.heap.size w wr ∧ w.heap.size + 2 ≤ wr.heap.size) (fun v _ => ps.length - (RowKit.intOf v).toNat)
      case atStart => exact ⟨0, Nat.zero_le _, rfl, hb2', by simp at hsz2; omega⟩
      case round =>
        obtain ⟨i, hi, rfl, hwr, hsz⟩ := hrel
        obtain rfl : i = 0 := by omega
        go_wp2
        go_ret
        exact ⟨rfl, hwr⟩
    · have hn' : (2 : Int) ≤ (_ : Nat) := Int.ofNat_le.2 hn
      go_enter Tryz.func54, Tryz.ntmps54
      go_wp2
      go_loopw [91] (fun v wr => ∃ i : Nat, i ≤ ps.length ∧ v = .int .i64 i ∧ Below w.heap.size w wr ∧ w.heap.size + 2 ≤ wr.heap.size) (fun v _ => ps.length - (RowKit.intOf v).toNat)
      case atStart => exact ⟨0, Nat.zero_le _, rfl, (((Below.refl _ w).alloc (Nat.le_refl _) _).alloc (by simp) _), by simp⟩
      case round =>
        obtain ⟨i, hi, rfl, hwr, hsz⟩ := hrel
        by_cases hlt : i < ps.length
        · obtain ⟨g, rfl, hgl, hcap, hcm, hparts⟩ := HO.out.resolve_left (by rintro ⟨h, _⟩; rw [h] at hlt; simp at hlt)
          obtain ⟨k1, x1, s1, ad1, n1, cap1, mn1, mx1, hr1, hc⟩ := hparts i ps[i] (List.getElem?_eq_getElem hlt)
          have low : ∀ (j : Nat) (q : Nat), q < w.heap.size → ∀ {v : Value}, w.cell? ⟨q, i * 9 + j, none⟩ = some v → wr.cell? ⟨q, i * 9 + j, none⟩ = some v := fun j q hq v h => (hwr.cell (p := ⟨q, i * 9 + j, none⟩) hq).trans h
          have a0 : wr.cell? ⟨g, i * 9, none⟩ = _ := low 0 g hgl (hc 0 _ rfl)
          have a1 := low 1 g hgl (hc 1 _ rfl)
          have a2 := low 2 g hgl (hc 2 _ rfl)
          have a3 := low 3 g hgl (hc 3 _ rfl)
          have a4 := low 4 g hgl (hc 4 _ rfl)
          have a5 := low 5 g hgl (hc 5 _ rfl)
          have a6 := low 6 g hgl (hc 6 _ rfl)
          have a7 := low 7 g hgl (hc 7 _ rfl)
          have a8 := low 8 g hgl (hc 8 _ rfl)
          have hq1 := hid (hr1.frame (F' := F) (w' := wr) (fun _ h _ => h) (fun q _ hq => hwr.block q hq))
          have hfi := HF.out _ (List.getElem_mem hlt)
          have hgi := Int.ofNat_lt.2 (Nat.lt_of_lt_of_eq hlt hpl)
          clear hparts hc low hr1
          have hd1 := ReIn.frame (F := F) (F' := F) (w := wr) (w' := wr.alloc (.cells (reC k1 x1 s1 (.slice ad1 n1 cap1) mn1 mx1) 33)) (fun _ h _ => h) (fun q _ hq => alloc_old hq) hq1.out
          go_wp2_with (go_at_call 54; refine (IH.out _ hfi F _ _ hd1).mono ?_; rintro e w3 ⟨rfl, hb3⟩)
          go_roundw
          case rel => exact ⟨i + 1, by omega, by go_num, (hwr.alloc (by omega) _).trans (hb3.mono (by simp; omega)), by have := hb3.size; simp at this; omega⟩
          case measure => simp [RowKit.intOf]; omega
        · obtain hie : i = ps.length := by omega
          rw [hpl] at hie
          subst hie
          go_wp2
          go_ret
          exact ⟨rfl, hwr⟩
    · have hn' : (2 : Int) ≤ (_ : Nat) := Int.ofNat_le.2 hn
      go_enter Tryz.func54, Tryz.ntmps54
      go_wp2
      go_loopw [91] (fun v wr => ∃ i : Nat, i ≤ ps.length ∧ v = .int .i64 i ∧ Below w.heap.size w wr ∧ w.heap.size + 2 ≤ wr.heap.size) (fun v _ => ps.length - (RowKit.intOf v).toNat)
      case atStart => exact ⟨0, Nat.zero_le _, rfl, (((Below.refl _ w).alloc (Nat.le_refl _) _).alloc (by simp) _), by simp⟩
      case round =>
        obtain ⟨i, hi, rfl, hwr, hsz⟩ := hrel
        by_cases hlt : i < ps.length
        · obtain ⟨g, rfl, hgl, hcap, hcm, hparts⟩ := HO.out.resolve_left (by rintro ⟨h, _⟩; rw [h] at hlt; simp at hlt)
          obtain ⟨k1, x1, s1, ad1, n1, cap1, mn1, mx1, hr1, hc⟩ := hparts i ps[i] (List.getElem?_eq_getElem hlt)
          have low : ∀ (j : Nat) (q : Nat), q < w.heap.size → ∀ {v : Value}, w.cell? ⟨q, i * 9 + j, none⟩ = some v → wr.cell? ⟨q, i * 9 + j, none⟩ = some v := fun j q hq v h => (hwr.cell (p := ⟨q, i * 9 + j, none⟩) hq).trans h
          have a0 : wr.cell? ⟨g, i * 9, none⟩ = _ := low 0 g hgl (hc 0 _ rfl)
          have a1 := low 1 g hgl (hc 1 _ rfl)
          have a2 := low 2 g hgl (hc 2 _ rfl)
          have a3 := low 3 g hgl (hc 3 _ rfl)
          have a4 := low 4 g hgl (hc 4 _ rfl)
          have a5 := low 5 g hgl (hc 5 _ rfl)
          have a6 := low 6 g hgl (hc 6 _ rfl)
          have a7 := low 7 g hgl (hc 7 _ rfl)
          have a8 := low 8 g hgl (hc 8 _ rfl)
          have hq1 := hid (hr1.frame (F' := F) (w' := wr) (fun _ h _ => h) (fun q _ hq => hwr.block q hq))
          have hfi := HF.out _ (List.getElem_mem hlt)
          have hgi := Int.ofNat_lt.2 (Nat.lt_of_lt_of_eq hlt hpl)
          clear hparts hc low hr1
          have hd1 := ReIn.frame (F := F) (F' := F) (w := wr) (w' := wr.alloc (.cells (reC k1 x1 s1 (.slice ad1 n1 cap1) mn1 mx1) 33)) (fun _ h _ => h) (fun q _ hq => alloc_old hq) hq1.out
          go_wp2_with (go_at_call 54; refine (IH.out _ hfi F _ _ hd1).mono ?_; rintro e w3 ⟨rfl, hb3⟩)
          go_roundw
          case rel => exact ⟨i + 1, by omega, by go_num, (hwr.alloc (by omega) _).trans (hb3.mono (by simp; omega)), by have := hb3.size; simp at this; omega⟩
          case measure => simp [RowKit.intOf]; omega
        · obtain hie : i = ps.length := by omega
          rw [hpl] at hie
          subst hie
          go_wp2
          go_ret
          exact ⟨rfl, hwr⟩
    · have hn' : (2 : Int) ≤ (_ : Nat) := Int.ofNat_le.2 hn
      go_enter Tryz.func54, Tryz.ntmps54
      go_wp2
      go_loopw [91] (fun v wr => ∃ i : Nat, i ≤ ps.length ∧ v = .int .i64 i ∧ Below w.heap.size w wr ∧ w.heap.size + 2 ≤ wr.heap.size) (fun v _ => ps.length - (RowKit.intOf v).toNat)
      case atStart => exact ⟨0, Nat.zero_le _, rfl, (((Below.refl _ w).alloc (Nat.le_refl _) _).alloc (by simp) _), by simp⟩
      case round =>
        obtain ⟨i, hi, rfl, hwr, hsz⟩ := hrel
        by_cases hlt : i < ps.length
        · obtain ⟨g, rfl, hgl, hcap, hcm, hparts⟩ := HO.out.resolve_left (by rintro ⟨h, _⟩; rw [h] at hlt; simp at hlt)
          obtain ⟨k1, x1, s1, ad1, n1, cap1, mn1, mx1, hr1, hc⟩ := hparts i ps[i] (List.getElem?_eq_getElem hlt)
          have low : ∀ (j : Nat) (q : Nat), q < w.heap.size → ∀ {v : Value}, w.cell? ⟨q, i * 9 + j, none⟩ = some v → wr.cell? ⟨q, i * 9 + j, none⟩ = some v := fun j q hq v h => (hwr.cell (p := ⟨q, i * 9 + j, none⟩) hq).trans h
          have a0 : wr.cell? ⟨g, i * 9, none⟩ = _ := low 0 g hgl (hc 0 _ rfl)
          have a1 := low 1 g hgl (hc 1 _ rfl)
          have a2 := low 2 g hgl (hc 2 _ rfl)
          have a3 := low 3 g hgl (hc 3 _ rfl)
          have a4 := low 4 g hgl (hc 4 _ rfl)
          have a5 := low 5 g hgl (hc 5 _ rfl)
          have a6 := low 6 g hgl (hc 6 _ rfl)
          have a7 := low 7 g hgl (hc 7 _ rfl)
          have a8 := low 8 g hgl (hc 8 _ rfl)
          have hq1 := hid (hr1.frame (F' := F) (w' := wr) (fun _ h _ => h) (fun q _ hq => hwr.block q hq))
          have hfi := HF.out _ (List.getElem_mem hlt)
          have hgi := Int.ofNat_lt.2 (Nat.lt_of_lt_of_eq hlt hpl)
          clear hparts hc low hr1
          have hd1 := ReIn.frame (F := F) (F' := F) (w := wr) (w' := wr.alloc (.cells (reC k1 x1 s1 (.slice ad1 n1 cap1) mn1 mx1) 33)) (fun _ h _ => h) (fun q _ hq => alloc_old hq) hq1.out
          go_wp2_with (go_at_call 54; refine (IH.out _ hfi F _ _ hd1).mono ?_; rintro e w3 ⟨rfl, hb3⟩)
          go_roundw
          case rel => exact ⟨i + 1, by omega, by go_num, (hwr.alloc (by omega) _).trans (hb3.mono (by simp; omega)), by have := hb3.size; simp at this; omega⟩
          case measure => simp [RowKit.intOf]; omega
        · obtain hie : i = ps.length := by omega
          rw [hpl] at hie
          subst hie
          go_wp2
          go_ret
          exact ⟨rfl, hwr⟩
    · go_enter Tryz.func54, Tryz.ntmps54
      go_wp2
      go_loopw [91] (fun v wr => ∃ i : Nat, i ≤ ps.length ∧ v = .int .i64 i ∧ Below w.heap.size w wr ∧ w.heap.size + 2 ≤ wr.heap.size) (fun v _ => ps.length - (RowKit.intOf v).toNat)
      case atStart => exact ⟨0, Nat.zero_le _, rfl, (((Below.refl _ w).alloc (Nat.le_refl _) _).alloc (by simp) _), by simp⟩
      case round =>
        obtain ⟨i, hi, rfl, hwr, hsz⟩ := hrel
        by_cases hlt : i < ps.length
        · obtain ⟨g, rfl, hgl, hcap, hcm, hparts⟩ := HO.out.resolve_left (by rintro ⟨h, _⟩; rw [h] at hlt; simp at hlt)
          obtain ⟨k1, x1, s1, ad1, n1, cap1, mn1, mx1, hr1, hc⟩ := hparts i ps[i] (List.getElem?_eq_getElem hlt)
          have low : ∀ (j : Nat) (q : Nat), q < w.heap.size → ∀ {v : Value}, w.cell? ⟨q, i * 9 + j, none⟩ = some v → wr.cell? ⟨q, i * 9 + j, none⟩ = some v := fun j q hq v h => (hwr.cell (p := ⟨q, i * 9 + j, none⟩) hq).trans h
          have a0 : wr.cell? ⟨g, i * 9, none⟩ = _ := low 0 g hgl (hc 0 _ rfl)
          have a1 := low 1 g hgl (hc 1 _ rfl)
          have a2 := low 2 g hgl (hc 2 _ rfl)
          have a3 := low 3 g hgl (hc 3 _ rfl)
          have a4 := low 4 g hgl (hc 4 _ rfl)
          have a5 := low 5 g hgl (hc 5 _ rfl)
          have a6 := low 6 g hgl (hc 6 _ rfl)
          have a7 := low 7 g hgl (hc 7 _ rfl)
          have a8 := low 8 g hgl (hc 8 _ rfl)
          have hq1 := hid (hr1.frame (F' := F) (w' := wr) (fun _ h _ => h) (fun q _ hq => hwr.block q hq))
          have hfi := HF.out _ (List.getElem_mem hlt)
          have hgi : (i : Int) < 1 := by omega
          clear hparts hc low hr1
          have hd1 := ReIn.frame (F := F) (F' := F) (w := wr) (w' := wr.alloc (.cells (reC k1 x1 s1 (.slice ad1 n1 cap1) mn1 mx1) 33)) (fun _ h _ => h) (fun q _ hq => alloc_old hq) hq1.out
          go_wp2_with (go_at_call 54; refine (IH.out _ hfi F _ _ hd1).mono ?_; rintro e w3 ⟨rfl, hb3⟩)
          go_roundw
          case rel => exact ⟨i + 1, by omega, by go_num, (hwr.alloc (by omega) _).trans (hb3.mono (by simp; omega)), by have := hb3.size; simp at this; omega⟩
          case measure => simp [RowKit.intOf]; omega
        · obtain hie : i = ps.length := by omega
          rw [hpl] at hie
          subst hie
          go_wp2
          go_ret
          exact ⟨rfl, hwr⟩
    · go_enter Tryz.func54, Tryz.ntmps54
      go_wp2_with (go_at_call 111; refine (often_may _ _ _ hof).mono ?_; rintro e w2 ⟨rfl, rfl⟩)
      go_loopw [91] (fun v wr => ∃ i : Nat, i ≤ ps.length ∧ v = .int .i64 i ∧ Below w.heap.size w wr ∧ w.heap.size + 2 ≤ wr.heap.size) (fun v _ => ps.length - (RowKit.intOf v).toNat)
      case atStart => exact ⟨0, Nat.zero_le _, rfl, (((Below.refl _ w).alloc (Nat.le_refl _) _).alloc (by simp) _), by simp⟩
      case round =>
        obtain ⟨i, hi, rfl, hwr, hsz⟩ := hrel
        by_cases hlt : i < ps.length
        · obtain ⟨g, rfl, hgl, hcap, hcm, hparts⟩ := HO.out.resolve_left (by rintro ⟨h, _⟩; rw [h] at hlt; simp at hlt)
          obtain ⟨k1, x1, s1, ad1, n1, cap1, mn1, mx1, hr1, hc⟩ := hparts i ps[i] (List.getElem?_eq_getElem hlt)
          have low : ∀ (j : Nat) (q : Nat), q < w.heap.size → ∀ {v : Value}, w.cell? ⟨q, i * 9 + j, none⟩ = some v → wr.cell? ⟨q, i * 9 + j, none⟩ = some v := fun j q hq v h => (hwr.cell (p := ⟨q, i * 9 + j, none⟩) hq).trans h
          have a0 : wr.cell? ⟨g, i * 9, none⟩ = _ := low 0 g hgl (hc 0 _ rfl)
          have a1 := low 1 g hgl (hc 1 _ rfl)
          have a2 := low 2 g hgl (hc 2 _ rfl)
          have a3 := low 3 g hgl (hc 3 _ rfl)
          have a4 := low 4 g hgl (hc 4 _ rfl)
          have a5 := low 5 g hgl (hc 5 _ rfl)
          have a6 := low 6 g hgl (hc 6 _ rfl)
          have a7 := low 7 g hgl (hc 7 _ rfl)
          have a8 := low 8 g hgl (hc 8 _ rfl)
          have hq1 := hid (hr1.frame (F' := F) (w' := wr) (fun _ h _ => h) (fun q _ hq => hwr.block q hq))
          have hfi := HF.out _ (List.getElem_mem hlt)
          have hgi : (i : Int) < 1 := by omega
          clear hparts hc low hr1
          have hd1 := ReIn.frame (F := F) (F' := F) (w := wr) (w' := wr.alloc (.cells (reC k1 x1 s1 (.slice ad1 n1 cap1) mn1 mx1) 33)) (fun _ h _ => h) (fun q _ hq => alloc_old hq) hq1.out
          go_wp2_with (go_at_call 54; refine (IH.out _ hfi F _ _ hd1).mono ?_; rintro e w3 ⟨rfl, hb3⟩)
          go_roundw
          case rel => exact ⟨i + 1, by omega, by go_num, (hwr.alloc (by omega) _).trans (hb3.mono (by simp; omega)), by have := hb3.size; simp at this; omega⟩
          case measure => simp [RowKit.intOf]; omega
        · obtain hie : i = ps.length := by omega
          rw [hpl] at hie
          subst hie
          go_wp2
          go_ret
          exact ⟨rfl, hwr⟩
end Go.Proofs.YtfljcfdfgojdoaaGreatDoor
