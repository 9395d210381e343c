/-
  math/bits.OnesCount64; sets as marks of bytes.
  set.Has: the contract.
  Plain: the rows of a set one by one; what is not in a set.
  set.runs, set.Rows: the contracts.
-/
import Derived.Test.YtfljcfdfgojdoaaGreatDoorAa20
import Derived.RangeFuncNested
import Derived.RangeFuncBound
import Derived.RangeFuncCalls
import Derived.RangeFuncLeaves
import Derived.Shelf.Abstract
import Derived.Shelf.RegionOpen
import Derived.OwnWalkIn
import Derived.TacticsInMore
import Derived.LoopNIn
import Derived.LoopIn
namespace Go.Proofs.YtfljcfdfgojdoaaGreatDoor.Sh
open Go.RowKit Go.Lib Go.Proofs.YtfljcfdfgojdoaaGreatDoor

def wordS (s : Se) (i : Nat) : Int := if i = 0 then s.a else if i = 1 then s.b else if i = 2 then s.c else s.d
def hasS (s : Se) (b : Nat) : Bool := decide (wordS s (b / 64) / 2 ^ (b % 64) % 2 = 1)
/-- a word of a set -/
def wOk (x : Int) : Prop := 0 ≤ x ∧ x < 18446744073709551616
structure SeOk (s : Se) : Prop where
  a : wOk s.a
  b : wOk s.b
  c : wOk s.c
  d : wOk s.d
theorem wrap_u64 (x : Nat) (h : x < 18446744073709551616) : IntKind.u64.wrap (x : Int) = x := by
  show (x : Int) % (2 ^ 64 : Int) = x
  omega
theorem wrap_u64m (x : Nat) : IntKind.u64.wrap (x : Int) = ((x % 18446744073709551616 : Nat) : Int) := by
  show (x : Int) % (2 ^ 64 : Int) = _
  omega
theorem and_u64 (x y : Nat) (hx : x < 18446744073709551616) (hy : y < 18446744073709551616) : bits .and .u64 (x : Int) (y : Int) = ((x &&& y : Nat) : Int) := by
  have hz : x &&& y < 2 ^ 64 := Nat.and_lt_two_pow _ (by omega)
  have h1 : (BitVec.ofInt 64 (x : Int)).toNat = x := by
    rw [BitVec.ofInt_natCast, BitVec.toNat_ofNat]; exact Nat.mod_eq_of_lt (by omega)
  have h2 : (BitVec.ofInt 64 (y : Int)).toNat = y := by
    rw [BitVec.ofInt_natCast, BitVec.toNat_ofNat]; exact Nat.mod_eq_of_lt (by omega)
  show IntKind.u64.wrap ((BitVec.ofInt 64 (x : Int) &&& BitVec.ofInt 64 (y : Int)).toNat : Int) = _
  rw [BitVec.toNat_and, h1, h2]
  exact wrap_u64 _ (by omega)
theorem bit_nat (m k : Nat) : decide ((m : Int) / 2 ^ k % 2 = 1) = m.testBit k := by
  rw [Nat.testBit_eq_decide_div_mod_eq]
  have e : ((m : Int) / 2 ^ k % 2) = ((m / 2 ^ k % 2 : Nat) : Int) := by
    rw [Int.natCast_emod, Int.natCast_ediv]; simp
  rw [e]
  exact decide_eq_decide.2 (by omega)
theorem step_eq (x k m : Nat) (hx : x < 18446744073709551616) (hm : m < 18446744073709551616) (h : (x / k &&& m) + (x &&& m) < 18446744073709551616) (ki mi : Int) (hk : ki = k) (hmi : mi = m) :
    IntKind.u64.wrap (bits .and .u64 ((x : Int) / ki) mi + bits .and .u64 (x : Int) mi) = (((x / k &&& m) + (x &&& m) : Nat) : Int) := by
  subst hk hmi
  have h1 : x / k ≤ x := Nat.div_le_self _ _
  rw [← Int.natCast_ediv, and_u64 _ _ (by omega) hm, and_u64 _ _ hx hm, ← Int.natCast_add, wrap_u64 _ h]
theorem fold_eq (x k : Nat) (ki : Int) (hk : ki = k) : IntKind.u64.wrap ((x : Int) + (x : Int) / ki) = (((x + x / k) % 18446744073709551616 : Nat) : Int) := by
  subst hk
  rw [← Int.natCast_ediv, ← Int.natCast_add, wrap_u64m]
theorem wrap_small {z : Int} (h0 : 0 ≤ z) (h1 : z < 1000000) : IntKind.i64.wrap z = z := by rw [IntKind.wrap_i64]; omega
theorem and127 (x : Nat) (h : x < 18446744073709551616) : bits .and .i64 (RowKit.wrap64 (x : Int)) 127 = ((x % 128 : Nat) : Int) := by
  have h1 : (BitVec.ofInt 64 (RowKit.wrap64 (x : Int))).toNat = x := by
    rw [BitVec.toNat_ofInt]; unfold RowKit.wrap64; omega
  have h2 : (BitVec.ofInt 64 (127 : Int)).toNat = 127 := by decide
  have e : (BitVec.ofInt 64 (RowKit.wrap64 (x : Int)) &&& BitVec.ofInt 64 (127 : Int)).toNat = x % 128 := by
    rw [BitVec.toNat_and, h1, h2, show (127 : Nat) = 2 ^ 7 - 1 from rfl, Nat.and_two_pow_sub_one_eq_mod]
  show IntKind.i64.wrap ((BitVec.ofInt 64 (RowKit.wrap64 (x : Int)) &&& BitVec.ofInt 64 (127 : Int)).toNat : Int) = _
  rw [e]
  have : x % 128 < 128 := Nat.mod_lt _ (by decide)
  exact wrap_small (by omega) (by omega)
set_option maxRecDepth 100000 in
theorem ones_any (x : Nat) (hx : x < 18446744073709551616) (w : World) :
    Calls Tryz.prog 198 #[.int .u64 x] w fun e w' => e = .returned (.int .i64 (manyP x.testBit 64)) ∧ w' = w := by
  obtain ⟨a, ha⟩ : ∃ a, a = ((x / 2) &&& 6148914691236517205) + (x &&& 6148914691236517205) := ⟨_, rfl⟩
  obtain ⟨b, hb⟩ : ∃ b, b = ((a / 4) &&& 3689348814741910323) + (a &&& 3689348814741910323) := ⟨_, rfl⟩
  obtain ⟨c, hc⟩ : ∃ c, c = (b / 16 + b) &&& 1085102592571150095 := ⟨_, rfl⟩
  obtain ⟨y, hy⟩ : ∃ y, y = (c + c / 256) % 18446744073709551616 := ⟨_, rfl⟩
  obtain ⟨z, hz⟩ : ∃ z, z = (y + y / 65536) % 18446744073709551616 := ⟨_, rfl⟩
  obtain ⟨t, ht⟩ : ∃ t, t = (z + z / 4294967296) % 18446744073709551616 := ⟨_, rfl⟩
  obtain ⟨l1, l2, l3, l4, l5⟩ := pop_law hx ha hb hc hy hz ht
  have HA := hid (step_eq x 2 6148914691236517205 hx (by decide) (by rw [← ha]; exact l1) 2 6148914691236517205 rfl rfl)
  have HB := hid (step_eq a 4 3689348814741910323 l1 (by decide) (by rw [← hb]; exact l2) 4 3689348814741910323 rfl rfl)
  have HC := hid (show bits .and .u64 ((b : Int) / 16 + b) 1085102592571150095 = (c : Int) by
    rw [show ((b : Int) / 16 + b) = ((b / 16 + b : Nat) : Int) by omega, show (1085102592571150095 : Int) = ((1085102592571150095 : Nat) : Int) from rfl, and_u64 _ _ l3 (by decide), ← hc])
  have HY := hid (fold_eq c 256 256 rfl)
  have HZ := hid (fold_eq y 65536 65536 rfl)
  have HT := hid (fold_eq z 4294967296 4294967296 rfl)
  have HL := hid l5
  have HF := hid (and127 t (by rw [ht]; exact Nat.mod_lt _ (by decide)))
  have hat := hid (And.intro ha (And.intro hb (And.intro hy (And.intro hz ht))))
  clear ha hb hc hy hz ht l5
  go_enter Tryz.func198, Tryz.ntmps198
  go_upto_region 2 with fail
  rw [HA.out, ← hat.out.1]
  go_upto_region 3 with fail
  rw [HB.out, ← hat.out.2.1]
  go_upto_region 4 with fail
  rw [HC.out]
  go_upto_region 5 with fail
  rw [HY.out, ← hat.out.2.2.1]
  go_upto_region 6 with fail
  rw [HZ.out, ← hat.out.2.2.2.1]
  go_upto_region 7 with fail
  rw [HT.out, ← hat.out.2.2.2.2]
  go_wp2_with fail
  go_ret
  exact ⟨congrArg (fun n : Int => Ending.returned (.int .i64 n)) (HF.out.trans (by rw [HL.out])), rfl⟩
theorem manyP_le (p : Nat → Bool) (c : Nat) : manyP p c ≤ c := by unfold manyP; exact Nat.le_trans (List.length_filter_le _ _) (by simp)
def preM (a b c d : Nat) : Nat → Nat
  | 0 => 0
  | 1 => 0 + manyP a.testBit 64
  | 2 => 0 + manyP a.testBit 64 + manyP b.testBit 64
  | 3 => 0 + manyP a.testBit 64 + manyP b.testBit 64 + manyP c.testBit 64
  | _ => 0 + manyP a.testBit 64 + manyP b.testBit 64 + manyP c.testBit 64 + manyP d.testBit 64
theorem size_law (s : Se) (hs : SeOk s) : manyP s.a.toNat.testBit 64 + manyP s.b.toNat.testBit 64 + manyP s.c.toNat.testBit 64 + manyP s.d.toNat.testBit 64 = manyP (hasS s) 256 := by
  have e : ∀ (x : Int) (i : Nat), wOk x → wordS s i = x → manyP (fun k => hasS s (64 * i + k)) 64 = manyP x.toNat.testBit 64 := fun x i hx hw => manyP_ext fun k hk => by
    obtain ⟨n, rfl⟩ := Int.eq_ofNat_of_zero_le hx.1
    unfold hasS
    rw [show (64 * i + k) / 64 = i by omega, show (64 * i + k) % 64 = k by omega, hw]
    exact bit_nat n k
  have e0 := e s.a 0 hs.a rfl
  have e1 := e s.b 1 hs.b rfl
  have e2 := e s.c 2 hs.c rfl
  have e3 := e s.d 3 hs.d rfl
  simp only [Nat.mul_zero, Nat.zero_add] at e0
  rw [show (256 : Nat) = 64 + (64 + (64 + 64)) from rfl, manyP_add, manyP_add, manyP_add]
  simp only [← Nat.add_assoc]
  rw [← e0, ← e1, ← e2, ← e3]
set_option maxRecDepth 100000 in
set_option maxHeartbeats 400000 in
theorem size_any (s : Se) (hs : SeOk s) (w : World) :
    Calls Tryz.prog 173 #[s.v] w fun e w' => e = .returned (.int .i64 (manyP (hasS s) 256)) ∧ Below w.heap.size w w' := by
  have HL := hid (size_law s hs)
  obtain ⟨xa, xb, xc, xd⟩ := s
  obtain ⟨ha, hb, hc, hd⟩ := hs
  obtain ⟨a, rfl⟩ := Int.eq_ofNat_of_zero_le ha.1
  obtain ⟨b, rfl⟩ := Int.eq_ofNat_of_zero_le hb.1
  obtain ⟨c, rfl⟩ := Int.eq_ofNat_of_zero_le hc.1
  obtain ⟨d, rfl⟩ := Int.eq_ofNat_of_zero_le hd.1
  have ha2 := ha.2
  have hb2 := hb.2
  have hc2 := hc.2
  have hd2 := hd.2
  dsimp only at ha2 hb2 hc2 hd2
  have b0 : manyP a.testBit 64 ≤ 64 := manyP_le _ _
  have b1 : manyP b.testBit 64 ≤ 64 := manyP_le _ _
  have b2 : manyP c.testBit 64 ≤ 64 := manyP_le _ _
  have b3 : manyP d.testBit 64 ≤ 64 := manyP_le _ _
  have HL2 : Hid (0 + manyP a.testBit 64 + manyP b.testBit 64 + manyP c.testBit 64 + manyP d.testBit 64 = manyP (hasS ⟨(a : Int), b, c, d⟩) 256) := hid (by rw [Nat.zero_add]; exact HL.out)
  clear HL ha hb hc hd
  have HB := hid ((Below.refl w.heap.size w).alloc (Nat.le_refl _) (.cells #[.int .u64 (a : Int), .int .u64 (b : Int), .int .u64 (c : Int), .int .u64 (d : Int)] 30))
  have hblk : (w.alloc (.cells #[.int .u64 (a : Int), .int .u64 (b : Int), .int .u64 (c : Int), .int .u64 (d : Int)] 30)).heap[w.heap.size]? = some (.cells #[.int .u64 (a : Int), .int .u64 (b : Int), .int .u64 (c : Int), .int .u64 (d : Int)] 30 (0, 0)) := heap_alloc_new _ _
  have c0 := cell_blk (i := 0) hblk rfl
  have c1 := cell_blk (i := 1) hblk rfl
  have c2 := cell_blk (i := 2) hblk rfl
  have c3 := cell_blk (i := 3) hblk rfl
  clear hblk
  go_enter Tryz.func173, Tryz.ntmps173
  go_wp2_with fail
  go_loopw [3, 7] (fun n i wr => ∃ (k m : Nat), k ≤ 4 ∧ i = .int .i64 k ∧ n = .int .i64 m ∧ Hid (m = preM a b c d k) ∧ m ≤ 64 * k ∧ Below w.heap.size w wr) (fun _ i _ => 4 - (RowKit.intOf i).toNat)
  case atStart => exact ⟨0, 0, by decide, rfl, rfl, rfl, by decide, HB.out⟩
  case round =>
    obtain ⟨k, m, hk, hi, rfl, HM, hm, hb⟩ := hrel
    have HB2 := hid hb
    clear hb
    by_cases hlt : k < 4
    · rcases (by omega : k = 0 ∨ k = 1 ∨ k = 2 ∨ k = 3) with rfl | rfl | rfl | rfl
      · have hi0 := hi.trans (show Value.int .i64 ((0 : Nat) : Int) = Value.int .i64 0 from rfl)
        subst hi0
        clear hi
        have i0 : ∀ (x0 x1 x2 x3 : Value) (w : World), (Instr.index 30 (.agg #[x0, x1, x2, x3]) (.int .i64 0)).run Tryz.prog w = .ok x0 w := fun _ _ _ _ _ => by kernel_rfl
        have hc := ones_any a (by omega) wr
        go_wp2_with (go_at_call 198; refine hc.mono ?_; clear hc; rintro e w' ⟨rfl, rfl⟩)
        go_roundw
        case rel => exact ⟨1, m + manyP (Nat.testBit a) 64, by decide, by rfl, by go_num, hid (by rw [HM.out]; rfl), by omega, HB2.out⟩
        case measure => decide
      · have hi0 := hi.trans (show Value.int .i64 ((1 : Nat) : Int) = Value.int .i64 1 from rfl)
        subst hi0
        clear hi
        have i1 : ∀ (x0 x1 x2 x3 : Value) (w : World), (Instr.index 30 (.agg #[x0, x1, x2, x3]) (.int .i64 1)).run Tryz.prog w = .ok x1 w := fun _ _ _ _ _ => by kernel_rfl
        have hc := ones_any b (by omega) wr
        go_wp2_with (go_at_call 198; refine hc.mono ?_; clear hc; rintro e w' ⟨rfl, rfl⟩)
        go_roundw
        case rel => exact ⟨2, m + manyP (Nat.testBit b) 64, by decide, by rfl, by go_num, hid (by rw [HM.out]; rfl), by omega, HB2.out⟩
        case measure => decide
      · have hi0 := hi.trans (show Value.int .i64 ((2 : Nat) : Int) = Value.int .i64 2 from rfl)
        subst hi0
        clear hi
        have i2 : ∀ (x0 x1 x2 x3 : Value) (w : World), (Instr.index 30 (.agg #[x0, x1, x2, x3]) (.int .i64 2)).run Tryz.prog w = .ok x2 w := fun _ _ _ _ _ => by kernel_rfl
        have hc := ones_any c (by omega) wr
        go_wp2_with (go_at_call 198; refine hc.mono ?_; clear hc; rintro e w' ⟨rfl, rfl⟩)
        go_roundw
        case rel => exact ⟨3, m + manyP (Nat.testBit c) 64, by decide, by rfl, by go_num, hid (by rw [HM.out]; rfl), by omega, HB2.out⟩
        case measure => decide
      · have hi0 := hi.trans (show Value.int .i64 ((3 : Nat) : Int) = Value.int .i64 3 from rfl)
        subst hi0
        clear hi
        have i3 : ∀ (x0 x1 x2 x3 : Value) (w : World), (Instr.index 30 (.agg #[x0, x1, x2, x3]) (.int .i64 3)).run Tryz.prog w = .ok x3 w := fun _ _ _ _ _ => by kernel_rfl
        have hc := ones_any d (by omega) wr
        go_wp2_with (go_at_call 198; refine hc.mono ?_; clear hc; rintro e w' ⟨rfl, rfl⟩)
        go_roundw
        case rel => exact ⟨4, m + manyP (Nat.testBit d) 64, by decide, by rfl, by go_num, hid (by rw [HM.out]; rfl), by omega, HB2.out⟩
        case measure => decide
    · obtain rfl : k = 4 := by omega
      have hi0 := hi.trans (show Value.int .i64 ((4 : Nat) : Int) = Value.int .i64 4 from rfl)
      subst hi0
      have HE := hid (show m = manyP (hasS ⟨(a : Int), b, c, d⟩) 256 from HM.out.trans HL2.out)
      go_wp2_with fail
      go_ret
      rw [HE.out]
      exact ⟨rfl, HB2.out⟩
end Go.Proofs.YtfljcfdfgojdoaaGreatDoor.Sh

namespace Go.Proofs.YtfljcfdfgojdoaaGreatDoor.Sh
open Go.RowKit Go.Lib Go.Proofs.YtfljcfdfgojdoaaGreatDoor

theorem and_one (y : Int) : bits .and .u64 y 1 = y % 2 := by
  have h1 : (BitVec.ofInt 64 (1 : Int)).toNat = 1 := by decide
  have h2 : (BitVec.ofInt 64 y).toNat = (y % 18446744073709551616).toNat := by
    rw [BitVec.toNat_ofInt]; rfl
  show IntKind.u64.wrap ((BitVec.ofInt 64 y &&& BitVec.ofInt 64 (1 : Int)).toNat : Int) = _
  rw [BitVec.toNat_and, h1, h2, Nat.and_one_is_mod, wrap_u64 _ (by omega)]
  omega
theorem and_one_eq (y : Int) : (bits .and .u64 y 1 == 1) = decide (y % 2 = 1) := by
  rw [and_one]
  by_cases h : y % 2 = 1 <;> simp [h]
set_option maxHeartbeats 1000000 in
theorem has_any (s : Se) (n : Nat) (hc : n < 256) (w : World) :
    Calls Tryz.prog 224 #[s.v, .int .u8 n] w fun e w' => e = .returned (.bool (hasS s n)) ∧ Below w.heap.size w w' := by
  obtain ⟨x0, x1, x2, x3⟩ := s
  have hcase : n / 64 = 0 ∨ n / 64 = 1 ∨ n / 64 = 2 ∨ n / 64 = 3 := by omega
  rcases hcase with hq | hq | hq | hq
  all_goals
    have hq' : (n : Int) / 64 = _ := (by omega : _ = ((n / 64 : Nat) : Int)).trans (congrArg _ hq)
    simp only [Int.cast_ofNat_Int] at hq'
    have HQ := hid hq
    clear hq
    go_enter Tryz.func224, Tryz.ntmps224
    go_wp2
    go_ret
    refine ⟨?_, ?_⟩
    · simp [hasS, wordS, HQ.out, and_one_eq]
    · exact (Below.refl _ _).alloc (Nat.le_refl _) _
end Go.Proofs.YtfljcfdfgojdoaaGreatDoor.Sh

namespace Go.Proofs.YtfljcfdfgojdoaaGreatDoor.Sh
open Go.RowKit Go.Lib Go.Proofs.YtfljcfdfgojdoaaGreatDoor

theorem rowsTo_succ (p : Nat → Bool) (c : Nat) : rowsTo p (c + 1) = rowsTo p c ++ (if lastP p c = true then [(startP p c, c)] else []) := by
  unfold rowsTo
  rw [List.range_succ, List.filter_append, List.map_append]
  congr 1
  by_cases h : lastP p c = true <;> simp [h]
theorem rowsTo_no {p : Nat → Bool} {c : Nat} (h : lastP p c = false) : rowsTo p (c + 1) = rowsTo p c := by
  rw [rowsTo_succ, if_neg (by rw [h]; simp), List.append_nil]
theorem rowsTo_yes {p : Nat → Bool} {c : Nat} (h : lastP p c = true) : rowsTo p (c + 1) = rowsTo p c ++ [(startP p c, c)] := by
  rw [rowsTo_succ, if_pos h]
theorem rowsTo_len (p : Nat → Bool) (c : Nat) : (rowsTo p c).length ≤ c := by
  unfold rowsTo
  rw [List.length_map]
  exact Nat.le_trans (List.length_filter_le _ _) (by simp)
theorem startP_le (p : Nat → Bool) : ∀ b, startP p b ≤ b
  | 0 => Nat.le_refl _
  | b + 1 => by
    unfold startP
    split
    · exact Nat.le_succ_of_le (startP_le p b)
    · exact Nat.le_refl _
theorem rowsTo_in {p : Nat → Bool} {c : Nat} {r : Nat × Nat} (h : r ∈ rowsTo p c) : r.1 ≤ r.2 ∧ r.2 < c := by
  unfold rowsTo at h
  obtain ⟨b, hb, rfl⟩ := List.mem_map.1 h
  exact ⟨startP_le p b, List.mem_range.1 (List.mem_filter.1 hb).1⟩
/-- a row's first byte is its own start; the next ones share it -/
theorem startP_new {p : Nat → Bool} {c : Nat} (h : c = 0 ∨ p (c - 1) = false) : startP p c = c := by
  cases c with
  | zero => rfl
  | succ c =>
    have h' : p c = false := by simpa using h
    unfold startP
    rw [if_neg (by rw [h']; simp)]
theorem startP_on {p : Nat → Bool} {c : Nat} (h : p c = true) : startP p (c + 1) = startP p c := by
  rw [startP, if_pos h]
theorem xor_bit (x : Int) (hx : wOk x) (k : Nat) (hk : k < 64) : decide (bits .xor .u64 IntKind.u64.max x / 2 ^ k % 2 = 1) = !decide (x / 2 ^ k % 2 = 1) := by
  obtain ⟨n, rfl⟩ := Int.eq_ofNat_of_zero_le hx.1
  have hn : n < 2 ^ 64 := by have := hx.2; omega
  have h1 : (BitVec.ofInt 64 IntKind.u64.max).toNat = 2 ^ 64 - 1 := by decide
  have h2 : (BitVec.ofInt 64 (n : Int)).toNat = n := by
    rw [BitVec.ofInt_natCast, BitVec.toNat_ofNat]; exact Nat.mod_eq_of_lt hn
  have h3 : bits .xor .u64 IntKind.u64.max (n : Int) = (((2 ^ 64 - 1) ^^^ n : Nat) : Int) := by
    show IntKind.u64.wrap ((BitVec.ofInt 64 IntKind.u64.max ^^^ BitVec.ofInt 64 (n : Int)).toNat : Int) = _
    rw [BitVec.toNat_xor, h1, h2]
    exact wrap_u64 _ (Nat.xor_lt_two_pow (n := 64) (by decide) hn)
  rw [h3, bit_nat, bit_nat, Nat.testBit_xor, Nat.testBit_two_pow_sub_one]
  simp [hk]
theorem has_not {s : Se} (hs : SeOk s) {b : Nat} (hb : b < 256) : hasS (notS s) b = !hasS s b := by
  unfold hasS
  have hk : b % 64 < 64 := Nat.mod_lt _ (by decide)
  rcases (by omega : b / 64 = 0 ∨ b / 64 = 1 ∨ b / 64 = 2 ∨ b / 64 = 3) with h | h | h | h <;> rw [h]
  · exact xor_bit s.a hs.a _ hk
  · exact xor_bit s.b hs.b _ hk
  · exact xor_bit s.c hs.c _ hk
  · exact xor_bit s.d hs.d _ hk
theorem SeOk.nots {s : Se} (hs : SeOk s) : SeOk (notS s) := by
  have e : ∀ x, wOk x → wOk (bits .xor .u64 IntKind.u64.max x) := fun x hx => by
    obtain ⟨n, rfl⟩ := Int.eq_ofNat_of_zero_le hx.1
    have hn : n < 2 ^ 64 := by have := hx.2; omega
    have h1 : (BitVec.ofInt 64 IntKind.u64.max).toNat = 2 ^ 64 - 1 := by decide
    have h2 : (BitVec.ofInt 64 (n : Int)).toNat = n := by
      rw [BitVec.ofInt_natCast, BitVec.toNat_ofNat]; exact Nat.mod_eq_of_lt hn
    have h4 : (2 ^ 64 - 1) ^^^ n < 2 ^ 64 := Nat.xor_lt_two_pow (n := 64) (by decide) hn
    have h3 : bits .xor .u64 IntKind.u64.max (n : Int) = (((2 ^ 64 - 1) ^^^ n : Nat) : Int) := by
      show IntKind.u64.wrap ((BitVec.ofInt 64 IntKind.u64.max ^^^ BitVec.ofInt 64 (n : Int)).toNat : Int) = _
      rw [BitVec.toNat_xor, h1, h2]
      exact wrap_u64 _ h4
    rw [h3]
    exact ⟨by omega, by omega⟩
  exact ⟨e _ hs.a, e _ hs.b, e _ hs.c, e _ hs.d⟩
end Go.Proofs.YtfljcfdfgojdoaaGreatDoor.Sh

namespace Go.Proofs.YtfljcfdfgojdoaaGreatDoor.Sh
open Go.RowKit Go.Lib Go.Shelf Go.Proofs.YtfljcfdfgojdoaaGreatDoor
attribute [local go_sem] Oper.semAt_some

set_option maxRecDepth 100000 in
theorem runs_any (s : Se) (w : World) :
    Calls Tryz.prog 199 #[s.v] w fun e w' => e = .returned (.func (.func 223) #[] #[.pointer (some ⟨w.heap.size, 0, none⟩)]) ∧ w' = w.alloc (.cells s.cs 30) := by
  obtain ⟨a, b, c, d⟩ := s
  go_enter Tryz.func199, Tryz.ntmps199
  go_wp2
  go_ret
  exact ⟨rfl, rfl⟩
abbrev encR (r : Nat × Nat) : Array Value := #[.agg #[.int .u8 r.1, .int .u8 r.2]]
theorem grown_none {w w' : World} (h : Below w.heap.size w w') : w.grownBy w' none := ⟨h.os, h.tape, h.output, h.size, fun k hk _ => h.block k hk⟩
/-- the block of the set is kept -/
def Kq (Bs : Nat) (W W' : World) : Prop := W.heap.size ≤ W'.heap.size ∧ W'.heap[Bs]? = W.heap[Bs]?
theorem Kq.refl (Bs : Nat) (W : World) : Kq Bs W W := ⟨Nat.le_refl _, rfl⟩
theorem Kq.trans {Bs : Nat} {A B C : World} (h : Kq Bs A B) (k : Kq Bs B C) : Kq Bs A C := ⟨Nat.le_trans h.1 k.1, k.2.trans h.2⟩
theorem Kq.below {Bs : Nat} {W w1 w2 : World} (h : Kq Bs W w1) (k : Below w1.heap.size w1 w2) (hl : Bs < W.heap.size) : Kq Bs W w2 := h.trans ⟨k.size, k.block Bs (Nat.lt_of_lt_of_le hl h.1)⟩
/-- at the head of the outer loop: the byte ahead is none, or no byte is -/
def HeadP (p : Nat → Bool) (c : Nat) : Prop := c = 0 ∨ p (c - 1) = false ∨ p c = false ∨ 256 ≤ c
theorem HeadP.start {p : Nat → Bool} {c : Nat} (h : HeadP p c) (hc : c < 256) (hp : p c = true) : startP p c = c := by
  rcases h with h | h | h | h
  · exact startP_new (.inl h)
  · exact startP_new (.inr h)
  · rw [hp] at h; cases h
  · omega
theorem rows_pre (p : Nat → Bool) (c : Nat) (h : c ≤ 256) : rowsTo p c <+: rowsTo p 256 := by
  obtain ⟨d, hd⟩ : ∃ d, c + d = 256 := ⟨256 - c, by omega⟩
  rw [← hd]
  clear hd h
  induction d with
  | zero => exact List.prefix_rfl
  | succ d ih => rw [← Nat.add_assoc, rowsTo_succ]; exact ih.trans (List.prefix_append _ _)
set_option maxRecDepth 100000 in
set_option maxHeartbeats 2000000 in
theorem runs1_in (n : Nat) (hn : 1 ≤ n) (l Bs : Nat) (s : Se) (J Jx : List (Nat × Nat) → World → Prop)
    (hY : ∀ pre x W, J pre W → pre.length < 256 → YieldAt Fence.wide (n - 1) Tryz.prog l (encR x) W fun e W' =>
      (e = .returned (.bool true) ∧ J (pre ++ [x]) W' ∧ Kq Bs W W') ∨ (e = .returned (.bool false) ∧ Jx (pre ++ [x]) W'))
    (hJ : ∀ pre W W', J pre W → Below W.heap.size W W' → J pre W')
    (W : World) (hBs : W.heap[Bs]? = some (.cells s.cs 30 (0, 0))) (h0 : J [] W) :
    CallsIn Fence.wide n Tryz.prog 223 #[.func (.yield l) #[] #[], .pointer (some ⟨Bs, 0, none⟩)] W fun e W' => (∃ v, e = .returned v) ∧
      (J (rowsTo (hasS s) 256) W' ∨ ∃ pre, pre <+: rowsTo (hasS s) 256 ∧ Jx pre W') := by
  refine callsIn_of_wp Tryz.func223 rfl trivial ?_ rfl
  simp only [Tryz.ntmps223, List.size_toArray, List.length_cons, List.length_nil, Nat.reduceAdd, Nat.reduceSub, Array.replicate_succ, Array.replicate_zero, List.push_toArray, List.append_toArray, List.nil_append, List.cons_append]
  gi_wp2
  gi_loopw [3] (fun i wr => ∃ c : Nat, c ≤ 256 ∧ i = .int .i64 c ∧ HeadP (hasS s) c ∧ J (rowsTo (hasS s) c) wr ∧ Kq Bs W wr)
    (fun i _ => 256 - (RowKit.intOf i).toNat)
  case atStart => exact ⟨0, Nat.zero_le _, rfl, .inl rfl, h0, Kq.refl _ _⟩
  case round =>
    obtain ⟨c, hc, rfl, hhd, hJs, hb⟩ := hrel
    have hblk := hb.2.trans hBs
    by_cases hlt : c < 256
    · have c0 := cell_blk (i := 0) hblk rfl
      have c1 := cell_blk (i := 1) hblk rfl
      have c2 := cell_blk (i := 2) hblk rfl
      have c3 := cell_blk (i := 3) hblk rfl
      have HBK := hid hblk
      have HB := hid hb
      have HJ := hid hJs
      have HH := hid hhd
      clear hblk hb hJs hhd
      have hh := has_any s c hlt wr
      have HNL := hid (show hasS s c = false → lastP (hasS s) c = false from fun h => by unfold lastP; rw [h]; rfl)
      have HPP := hid (fun (x : Bool) (h : x = hasS s c) => h)
      generalize hp : hasS s c = pc at hh
      have HP := hid hp
      clear hp
      cases pc with
      | false =>
        gi_wp2_with (refine ⟨trivial, ?_⟩; gi_at_call 224; refine (callsIn_wide.2 hh).mono ?_; clear hh; rintro e w1 ⟨rfl, hb1⟩)
        go_roundw
        case rel => exact ⟨c + 1, by omega, by go_num, .inr (.inl HP.out), by rw [rowsTo_no (HNL.out HP.out)]; exact hJ _ _ _ HJ.out hb1, HB.out.below hb1 (lt_of_heap hBs)⟩
        case measure => simp [RowKit.intOf]; omega
      | true =>
        gi_wp2_with (refine ⟨trivial, ?_⟩; gi_at_call 224; refine (callsIn_wide.2 hh).mono ?_; clear hh; rintro e w1 ⟨rfl, hb1⟩)
        have HJ1 := hid (hJ _ _ _ HJ.out hb1)
        have HB1 := hid (HB.out.below hb1 (lt_of_heap hBs))
        have HST := hid (HH.out.start hlt HP.out)
        clear HJ HB HNL HPP HBK hb1
        gi_loopw [3] (fun i wr => ∃ e : Nat, c ≤ e ∧ e ≤ 255 ∧ i = .int .i64 e ∧ Hid (hasS s e = true ∧ startP (hasS s) e = c ∧ rowsTo (hasS s) e = rowsTo (hasS s) c) ∧ Hid (J (rowsTo (hasS s) c) wr) ∧ Kq Bs W wr) (fun i _ => 255 - (RowKit.intOf i).toNat)
        case atStart => exact ⟨c, Nat.le_refl _, by omega, rfl, hid ⟨HP.out, HST.out, rfl⟩, HJ1, HB1.out⟩
        case round =>
          obtain ⟨e, hce, he, rfl, HE, HJ2, hb⟩ := hrel
          have hblk := hb.2.trans hBs
          have c0 := cell_blk (i := 0) hblk rfl
          have c1 := cell_blk (i := 1) hblk rfl
          have c2 := cell_blk (i := 2) hblk rfl
          have c3 := cell_blk (i := 3) hblk rfl
          have HB2 := hid hb
          clear hb hblk
          by_cases hl5 : e < 255
          · have hh := has_any s (e + 1) (by omega) wr
            generalize hp : hasS s (e + 1) = pc at hh
            have HP2 := hid hp
            clear hp
            cases pc with
            | true =>
              have HNO := hid (rowsTo_no (p := hasS s) (c := e) (by unfold lastP; rw [HP2.out]; simp [hl5]))
              gi_wp2_with (refine ⟨trivial, ?_⟩; gi_at_call 224; refine (callsIn_wide.2 hh).mono ?_; clear hh; rintro e2 w2 ⟨rfl, hb2⟩)
              go_roundw
              case rel => exact ⟨e + 1, by omega, by omega, by go_num, hid ⟨HP2.out, by rw [startP_on HE.out.1]; exact HE.out.2.1, HNO.out.trans HE.out.2.2⟩, hid (hJ _ _ _ HJ2.out hb2), HB2.out.below hb2 (lt_of_heap hBs)⟩
              case measure => simp [RowKit.intOf]; omega
            | false =>
              have HLAST := hid (show lastP (hasS s) e = true by unfold lastP; rw [HE.out.1, HP2.out]; simp)
              have HNEXT := hid (show HeadP (hasS s) (e + 1) from .inr (.inr (.inl HP2.out)))
              have HRW := hid (show rowsTo (hasS s) (e + 1) = rowsTo (hasS s) c ++ [(c, e)] by rw [rowsTo_yes HLAST.out, HE.out.2.2, HE.out.2.1])
              gi_wp2_with (refine ⟨trivial, ?_⟩; gi_at_call 224; refine (callsIn_wide.2 hh).mono ?_; clear hh; rintro e2 w2 ⟨rfl, hb2⟩; obtain ⟨fn, tmps, assign, body, hy, hR⟩ := hY (rowsTo (hasS s) c) (c, e) w2 (hJ _ _ _ HJ2.out hb2) (by have := rowsTo_len (hasS s) c; omega); dsimp only [encR] at hy)
              refine hR.mono ?_
              rintro e3 W3 (⟨rfl, hJ3, hk3⟩ | ⟨rfl, hJx3⟩)
              · gi_wp2
                go_roundw
                case rel => exact ⟨e + 1, by omega, by go_num, HNEXT.out, by rw [HRW.out]; exact hJ3, (HB2.out.below hb2 (lt_of_heap hBs)).trans hk3⟩
                case measure => simp [RowKit.intOf]; omega
              · gi_wp2
                refine bodyPost_ret (results_none rfl _ _ _) rfl ?_
                exact ⟨⟨_, rfl⟩, .inr ⟨_, rows_pre _ (e + 1) (by omega), by rw [HRW.out]; exact hJx3⟩⟩
          · obtain rfl : e = 255 := by omega
            have HLAST := hid (show lastP (hasS s) 255 = true by unfold lastP; rw [HE.out.1]; rfl)
            have HNEXT := hid (show HeadP (hasS s) (255 + 1) from .inr (.inr (.inr (by decide))))
            have HRW := hid (show rowsTo (hasS s) (255 + 1) = rowsTo (hasS s) c ++ [(c, 255)] by rw [rowsTo_yes HLAST.out, HE.out.2.2, HE.out.2.1])
            obtain ⟨fn, tmps, assign, body, hy, hR⟩ := hY (rowsTo (hasS s) c) (c, 255) wr HJ2.out (by have := rowsTo_len (hasS s) c; omega)
            dsimp only [encR] at hy
            rw [show ((255 : Nat) : Int) = 255 from rfl] at hy
            gi_wp2
            refine ⟨trivial, ?_⟩
            gi_wp2
            refine hR.mono ?_
            rintro e3 W3 (⟨rfl, hJ3, hk3⟩ | ⟨rfl, hJx3⟩)
            · gi_wp2
              go_roundw
              case rel => exact ⟨255 + 1, by omega, by go_num, HNEXT.out, by rw [HRW.out]; exact hJ3, (HB2.out).trans hk3⟩
              case measure => simp [RowKit.intOf]; omega
            · gi_wp2
              refine bodyPost_ret (results_none rfl _ _ _) rfl ?_
              exact ⟨⟨_, rfl⟩, .inr ⟨_, rows_pre _ (255 + 1) (by omega), by rw [HRW.out]; exact hJx3⟩⟩
    · obtain rfl : c = 256 := by omega
      gi_wp2
      go_end0
      exact ⟨⟨_, rfl⟩, .inl hJs⟩
theorem runs_stops {n : Nat} (hn : 1 ≤ n) {Bs : Nat} {s : Se} {w : World} (hBs : w.heap[Bs]? = some (.cells s.cs 30 (0, 0))) :
    SeqStopsK Fence.wide n Tryz.prog 223 #[.pointer (some ⟨Bs, 0, none⟩)] encR (Kq Bs) (fun ys => ys = rowsTo (hasS s) 256) (fun pre => pre <+: rowsTo (hasS s) 256) 256 w := fun l J Jx W hW hJ _ hY h0 => by
  have hB' := (hW.block Bs (lt_of_heap hBs)).trans hBs
  refine (runs1_in n hn l Bs s J Jx hY (fun pre W W' h hb => hJ pre W W' none h (grown_none hb) (fun r e => by cases e)) W hB' h0).mono ?_
  rintro e W' ⟨he, hj | ⟨pre, hp, hj⟩⟩
  · exact ⟨he, .inl ⟨_, rfl, hj⟩⟩
  · exact ⟨he, .inr ⟨pre, hp, hj⟩⟩
end Go.Proofs.YtfljcfdfgojdoaaGreatDoor.Sh
