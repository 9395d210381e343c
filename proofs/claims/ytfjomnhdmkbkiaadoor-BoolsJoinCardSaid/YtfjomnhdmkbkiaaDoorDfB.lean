/-
  The contract of set.First, where the library's table of trailing zeros lies in its variable.
-/
import Derived.Test.YtfjomnhdmkbkiaaDoorDfA
import Derived.Test.YtfjomnhdmkbkiaaDoorDfD
import Derived.Test.YtfjomnhdmkbkiaaDoorDfS
namespace Go.Proofs.YtfjomnhdmkbkiaaDoor.Im
open Go.RowKit Go.Lib Go.Shelf

/-- the library's table lies in its variable -/
abbrev Tab (w : World) : Prop := TabAt 0 Lib.deBruijn64tab w
theorem tz_any (x : Nat) (hx : x < 18446744073709551616) (w : World) (hT : Tab w) :
    Calls Tryd.prog 88 #[.int .u64 x] w fun e w' => e = .returned (.int .i64 (Lib.ctz 64 x)) ∧ w' = w :=
  Any7.bits_TrailingZeros64 Tryd.laysTz x hx w fun _ => hT
def FirstPost (s : Se) (w : World) (e : Ending) (w' : World) : Prop :=
  e = .returned (.tuple #[.int .u8 (((firstW s).getD 0 : Nat) : Int), .bool (firstW s).isSome]) ∧ Below w.heap.size w w'
theorem Tab.below {w w' : World} (h : Tab w) (hb : Below w.heap.size w w') : Tab w' := fun j hj =>
  (cell_heap (hb.block 0 (World.block_lt_of_cell? w _ (h j hj)))).trans (h j hj)
theorem Tab.alloc {w : World} (h : Tab w) (o : Obj) : Tab (w.alloc o) := h.below ((Below.refl _ _).alloc (Nat.le_refl _) _)
theorem first_post {s : Se} {w w' : World} {k : Nat} (h : firstW s = some k) (hw : Below w.heap.size w w') : FirstPost s w (.returned (.tuple #[.int .u8 (k : Int), .bool true])) w' :=
  ⟨by rw [h]; rfl, hw⟩
set_option maxRecDepth 100000 in
set_option maxHeartbeats 2000000 in
theorem first_0 (a b c d : Nat) (hx : a < 18446744073709551616) (h0 : a ≠ 0) (w : World) (hT : Tab w) :
    Calls Tryd.prog 74 #[(⟨(a : Int), (b : Int), (c : Int), (d : Int)⟩ : Se).v] w (FirstPost ⟨(a : Int), (b : Int), (c : Int), (d : Int)⟩ w) := by
  have i0 : ∀ (x0 x1 x2 x3 : Value) (w : World), (Instr.index 65 (.agg #[x0, x1, x2, x3]) (.int .i64 0)).run Tryd.prog w = .ok x0 w := fun _ _ _ _ _ => by kernel_rfl
  have n0 : ((a : Int) != 0) = true := by simp; omega
  have htz := tz_any a hx _ (hT.alloc (.cells #[.int .u64 a, .int .u64 b, .int .u64 c, .int .u64 d] 65))
  have hlt := ctz_lt a h0 hx
  have HF := hid (show firstW ⟨(a : Int), (b : Int), (c : Int), (d : Int)⟩ = some (0 + Lib.ctz 64 a) by unfold firstW; rw [if_pos (by simpa using h0)]; rw [Nat.zero_add]; rfl)
  generalize Lib.ctz 64 a = k at htz hlt HF
  clear hT
  go_enter Tryd.func74, Tryd.ntmps74
  go_wp2
  refine wp_loop_rounds 5 ?_
  rw [rounds_succ]
  go_wp2_with (go_at_call 88; refine htz.mono ?_; rintro e w1 ⟨rfl, rfl⟩)
  go_ret2
  exact ⟨by rw [HF.out]; simp, (Below.refl _ _).alloc (Nat.le_refl _) _⟩
set_option maxRecDepth 100000 in
set_option maxHeartbeats 2000000 in
theorem first_1 (b c d : Nat) (hx : b < 18446744073709551616) (h0 : b ≠ 0) (w : World) (hT : Tab w) :
    Calls Tryd.prog 74 #[(⟨(0 : Int), (b : Int), (c : Int), (d : Int)⟩ : Se).v] w (FirstPost ⟨(0 : Int), (b : Int), (c : Int), (d : Int)⟩ w) := by
  have i0 : ∀ (x0 x1 x2 x3 : Value) (w : World), (Instr.index 65 (.agg #[x0, x1, x2, x3]) (.int .i64 0)).run Tryd.prog w = .ok x0 w := fun _ _ _ _ _ => by kernel_rfl
  have i1 : ∀ (x0 x1 x2 x3 : Value) (w : World), (Instr.index 65 (.agg #[x0, x1, x2, x3]) (.int .i64 1)).run Tryd.prog w = .ok x1 w := fun _ _ _ _ _ => by kernel_rfl
  have n0 : ((b : Int) != 0) = true := by simp; omega
  have htz := tz_any b hx _ (hT.alloc (.cells #[.int .u64 (0 : Int), .int .u64 b, .int .u64 c, .int .u64 d] 65))
  have hlt := ctz_lt b h0 hx
  have HF := hid (show firstW ⟨(0 : Int), (b : Int), (c : Int), (d : Int)⟩ = some (64 + Lib.ctz 64 b) by unfold firstW; rw [if_neg (by simp)]; rw [if_pos (by simpa using h0)]; rfl)
  generalize Lib.ctz 64 b = k at htz hlt HF
  clear hT
  go_enter Tryd.func74, Tryd.ntmps74
  go_wp2
  refine wp_loop_rounds 5 ?_
  rw [rounds_succ]
  go_wp2
  rw [rounds_succ]
  go_wp2_with (go_at_call 88; refine htz.mono ?_; rintro e w1 ⟨rfl, rfl⟩)
  go_ret2
  exact ⟨by rw [HF.out]; simp, (Below.refl _ _).alloc (Nat.le_refl _) _⟩
set_option maxRecDepth 100000 in
set_option maxHeartbeats 2000000 in
theorem first_2 (c d : Nat) (hx : c < 18446744073709551616) (h0 : c ≠ 0) (w : World) (hT : Tab w) :
    Calls Tryd.prog 74 #[(⟨(0 : Int), (0 : Int), (c : Int), (d : Int)⟩ : Se).v] w (FirstPost ⟨(0 : Int), (0 : Int), (c : Int), (d : Int)⟩ w) := by
  have i0 : ∀ (x0 x1 x2 x3 : Value) (w : World), (Instr.index 65 (.agg #[x0, x1, x2, x3]) (.int .i64 0)).run Tryd.prog w = .ok x0 w := fun _ _ _ _ _ => by kernel_rfl
  have i1 : ∀ (x0 x1 x2 x3 : Value) (w : World), (Instr.index 65 (.agg #[x0, x1, x2, x3]) (.int .i64 1)).run Tryd.prog w = .ok x1 w := fun _ _ _ _ _ => by kernel_rfl
  have i2 : ∀ (x0 x1 x2 x3 : Value) (w : World), (Instr.index 65 (.agg #[x0, x1, x2, x3]) (.int .i64 2)).run Tryd.prog w = .ok x2 w := fun _ _ _ _ _ => by kernel_rfl
  have n0 : ((c : Int) != 0) = true := by simp; omega
  have htz := tz_any c hx _ (hT.alloc (.cells #[.int .u64 (0 : Int), .int .u64 (0 : Int), .int .u64 c, .int .u64 d] 65))
  have hlt := ctz_lt c h0 hx
  have HF := hid (show firstW ⟨(0 : Int), (0 : Int), (c : Int), (d : Int)⟩ = some (128 + Lib.ctz 64 c) by unfold firstW; rw [if_neg (by simp)]; rw [if_neg (by simp)]; rw [if_pos (by simpa using h0)]; rfl)
  generalize Lib.ctz 64 c = k at htz hlt HF
  clear hT
  go_enter Tryd.func74, Tryd.ntmps74
  go_wp2
  refine wp_loop_rounds 5 ?_
  rw [rounds_succ]
  go_wp2
  rw [rounds_succ]
  go_wp2
  rw [rounds_succ]
  go_wp2_with (go_at_call 88; refine htz.mono ?_; rintro e w1 ⟨rfl, rfl⟩)
  go_ret2
  exact ⟨by rw [HF.out]; simp, (Below.refl _ _).alloc (Nat.le_refl _) _⟩
set_option maxRecDepth 100000 in
set_option maxHeartbeats 2000000 in
theorem first_3 (d : Nat) (hx : d < 18446744073709551616) (h0 : d ≠ 0) (w : World) (hT : Tab w) :
    Calls Tryd.prog 74 #[(⟨(0 : Int), (0 : Int), (0 : Int), (d : Int)⟩ : Se).v] w (FirstPost ⟨(0 : Int), (0 : Int), (0 : Int), (d : Int)⟩ w) := by
  have i0 : ∀ (x0 x1 x2 x3 : Value) (w : World), (Instr.index 65 (.agg #[x0, x1, x2, x3]) (.int .i64 0)).run Tryd.prog w = .ok x0 w := fun _ _ _ _ _ => by kernel_rfl
  have i1 : ∀ (x0 x1 x2 x3 : Value) (w : World), (Instr.index 65 (.agg #[x0, x1, x2, x3]) (.int .i64 1)).run Tryd.prog w = .ok x1 w := fun _ _ _ _ _ => by kernel_rfl
  have i2 : ∀ (x0 x1 x2 x3 : Value) (w : World), (Instr.index 65 (.agg #[x0, x1, x2, x3]) (.int .i64 2)).run Tryd.prog w = .ok x2 w := fun _ _ _ _ _ => by kernel_rfl
  have i3 : ∀ (x0 x1 x2 x3 : Value) (w : World), (Instr.index 65 (.agg #[x0, x1, x2, x3]) (.int .i64 3)).run Tryd.prog w = .ok x3 w := fun _ _ _ _ _ => by kernel_rfl
  have n0 : ((d : Int) != 0) = true := by simp; omega
  have htz := tz_any d hx _ (hT.alloc (.cells #[.int .u64 (0 : Int), .int .u64 (0 : Int), .int .u64 (0 : Int), .int .u64 d] 65))
  have hlt := ctz_lt d h0 hx
  have HF := hid (show firstW ⟨(0 : Int), (0 : Int), (0 : Int), (d : Int)⟩ = some (192 + Lib.ctz 64 d) by unfold firstW; rw [if_neg (by simp)]; rw [if_neg (by simp)]; rw [if_neg (by simp)]; rw [if_pos (by simpa using h0)]; rfl)
  generalize Lib.ctz 64 d = k at htz hlt HF
  clear hT
  go_enter Tryd.func74, Tryd.ntmps74
  go_wp2
  refine wp_loop_rounds 5 ?_
  rw [rounds_succ]
  go_wp2
  rw [rounds_succ]
  go_wp2
  rw [rounds_succ]
  go_wp2
  rw [rounds_succ]
  go_wp2_with (go_at_call 88; refine htz.mono ?_; rintro e w1 ⟨rfl, rfl⟩)
  go_ret2
  exact ⟨by rw [HF.out]; simp, (Below.refl _ _).alloc (Nat.le_refl _) _⟩
set_option maxRecDepth 100000 in
set_option maxHeartbeats 2000000 in
theorem first_4 (w : World) (_ : Tab w) :
    Calls Tryd.prog 74 #[(⟨(0 : Int), (0 : Int), (0 : Int), (0 : Int)⟩ : Se).v] w (FirstPost ⟨(0 : Int), (0 : Int), (0 : Int), (0 : Int)⟩ w) := by
  have i0 : ∀ (x0 x1 x2 x3 : Value) (w : World), (Instr.index 65 (.agg #[x0, x1, x2, x3]) (.int .i64 0)).run Tryd.prog w = .ok x0 w := fun _ _ _ _ _ => by kernel_rfl
  have i1 : ∀ (x0 x1 x2 x3 : Value) (w : World), (Instr.index 65 (.agg #[x0, x1, x2, x3]) (.int .i64 1)).run Tryd.prog w = .ok x1 w := fun _ _ _ _ _ => by kernel_rfl
  have i2 : ∀ (x0 x1 x2 x3 : Value) (w : World), (Instr.index 65 (.agg #[x0, x1, x2, x3]) (.int .i64 2)).run Tryd.prog w = .ok x2 w := fun _ _ _ _ _ => by kernel_rfl
  have i3 : ∀ (x0 x1 x2 x3 : Value) (w : World), (Instr.index 65 (.agg #[x0, x1, x2, x3]) (.int .i64 3)).run Tryd.prog w = .ok x3 w := fun _ _ _ _ _ => by kernel_rfl
  go_enter Tryd.func74, Tryd.ntmps74
  go_wp2
  refine wp_loop_rounds 5 ?_
  rw [rounds_succ]
  go_wp2
  rw [rounds_succ]
  go_wp2
  rw [rounds_succ]
  go_wp2
  rw [rounds_succ]
  go_wp2
  rw [rounds_succ]
  go_wp2
  go_ret2
  exact ⟨by unfold firstW; simp, (Below.refl _ _).alloc (Nat.le_refl _) _⟩
theorem first_any (s : Se) (hs : s.ok) (w : World) (hT : Tab w) : Calls Tryd.prog 74 #[s.v] w (FirstPost s w) := by
  obtain ⟨⟨ha, ha'⟩, ⟨hb, hb'⟩, ⟨hc, hc'⟩, ⟨hd, hd'⟩⟩ := hs
  obtain ⟨a, b, c, d⟩ := s
  dsimp only at *
  obtain ⟨a, rfl⟩ := Int.eq_ofNat_of_zero_le ha
  obtain ⟨b, rfl⟩ := Int.eq_ofNat_of_zero_le hb
  obtain ⟨c, rfl⟩ := Int.eq_ofNat_of_zero_le hc
  obtain ⟨d, rfl⟩ := Int.eq_ofNat_of_zero_le hd
  by_cases h0 : a = 0
  · subst h0
    by_cases h1 : b = 0
    · subst h1
      by_cases h2 : c = 0
      · subst h2
        by_cases h3 : d = 0
        · subst h3; exact first_4 w hT
        · exact first_3 d (by omega) h3 w hT
      · exact first_2 c d (by omega) h2 w hT
    · exact first_1 b c d (by omega) h1 w hT
  · exact first_0 a b c d (by omega) h0 w hT
theorem first_yes {s : Se} (hs : s.ok) {k : Nat} (hk : firstS s = some k) (w : World) (hT : Tab w) :
    Calls Tryd.prog 74 #[s.v] w fun e w' => e = .returned (.tuple #[.int .u8 (k : Int), .bool true]) ∧ Below w.heap.size w w' :=
  (first_any s hs w hT).mono fun e w' ⟨h1, h2⟩ => ⟨by rw [h1, firstW_eq hs, hk]; rfl, h2⟩
theorem first_no {s : Se} (hs : s.ok) (hk : firstS s = none) (w : World) (hT : Tab w) :
    Calls Tryd.prog 74 #[s.v] w fun e w' => e = .returned (.tuple #[.int .u8 0, .bool false]) ∧ Below w.heap.size w w' :=
  (first_any s hs w hT).mono fun e w' ⟨h1, h2⟩ => ⟨by rw [h1, firstW_eq hs, hk]; rfl, h2⟩
end Go.Proofs.YtfjomnhdmkbkiaaDoor.Im
