/-
  lex.Text: the contract.
  math/bits.OnesCount64; sets as marks of bytes.
  set.Has: the contract.
  Plain: the rows of a set one by one; what is not in a set.
-/
import Derived.Test.YtfljcfdfgojdoaaGreatDoorFa09
namespace Go.Proofs.YtfljcfdfgojdoaaGreatDoor.Sh
open Go.RowKit Go.Lib Go.Proofs.YtfljcfdfgojdoaaGreatDoor

theorem esc_len (c : B) : (escB c).length ≤ 4 := by unfold escB; (repeat' split) <;> simp
theorem escs_len (l : List B) : (l.flatMap escB).length ≤ 4 * l.length := by
  induction l with
  | nil => simp
  | cons c l ih => rw [List.flatMap_cons, List.length_append, List.length_cons]; have := esc_len c; omega
def StrPost (l : List B) (w : World) (e : Ending) (w' : World) : Prop := e = .returned (.string ⟨l.toArray⟩) ∧ Below w.heap.size w w'
set_option maxRecDepth 100000 in
set_option maxHeartbeats 1000000 in
theorem text2_any (s : ByteArray) (hs : s.size ≤ 1099511627776) (w : World) :
    Calls Tryz.prog 87 #[.string s] w (StrPost (textW s.data.toList) w) := by
  have HS := hid hs
  have hsz : s.size ≤ maxLen := by unfold maxLen; omega
  unfold maxLen at hsz
  go_enter Tryz.func87, Tryz.ntmps87
  go_upto_region 2 with fail
  obtain ⟨W0, hW0⟩ : ∃ W0, W0 = w.alloc (.cells #[.int .u8 34] 5) := ⟨_, rfl⟩
  have HB0 := hid (show Below w.heap.size w W0 by rw [hW0]; exact (Below.refl _ _).alloc (Nat.le_refl _) _)
  have HO0 := hid (show OwnB W0 w.heap.size (.slice (some ⟨w.heap.size, 0, none⟩) 1 1) [34] from by
    rw [hW0]
    exact ⟨rfl, .inr ⟨w.heap.size, 1, _, rfl, Nat.le_refl _, heap_alloc_new _ _, Nat.le_refl _, by unfold maxLen; omega, rfl, rfl⟩⟩)
  rw [← hW0]
  clear hW0 hs
  go_wp2_with fail
  go_loopw [3, 8] (fun v i wr => ∃ (k n cp : Nat) (ad : Option Addr), k ≤ s.size ∧ i = .int .i64 k ∧ v = .slice ad n cp ∧ Hid (OwnB wr w.heap.size (.slice ad n cp) (34 :: (s.data.toList.take k).flatMap escB)) ∧ Below w.heap.size w wr) (fun _ i _ => s.size - (RowKit.intOf i).toNat)
  case atStart => exact ⟨0, 1, 1, _, Nat.zero_le _, rfl, rfl, HO0, HB0.out⟩
  case round =>
    obtain ⟨k, n, cp, ad, hk, rfl, rfl, HO, hb⟩ := hrel
    have HB := hid hb
    have hbs := hb.size
    clear hb
    by_cases hlt : k < s.size
    · have HL := hid (show (34 :: (s.data.toList.take (k + 1)).flatMap escB) = (34 :: (s.data.toList.take k).flatMap escB) ++ escB s[k] by
        have h1 : k < s.data.toList.length := hlt
        rw [List.take_succ_eq_append_getElem h1, List.flatMap_append]
        simp only [List.flatMap_cons, List.flatMap_nil, List.append_nil, List.cons_append]
        rfl)
      have hlen : (34 :: (s.data.toList.take k).flatMap escB).length ≤ 70368744177664 := by
        have := escs_len (s.data.toList.take k)
        rw [List.length_take] at this
        have h2 := HS.out
        simp only [List.length_cons]
        omega
      have hc := written_any HO.out hbs hlen s[k]
      clear hlen
      go_wp2_with (go_at_call 132; refine hc.mono ?_; clear hc; rintro e w2 ⟨v2, rfl, ho2, hb2, _⟩; have HO2 := hid ho2; have HB2 := hid (HB.out.trans hb2); clear ho2 hb2; obtain ⟨ad2, cp2, hv2⟩ := own_shape HO2.out; obtain ⟨n2, hn2⟩ : ∃ n2, n2 = ((34 :: (s.data.toList.take k).flatMap escB) ++ escB s[k]).length := ⟨_, rfl⟩; rw [← hn2] at hv2; subst hv2; clear hn2)
      go_roundw
      case rel => exact ⟨k + 1, n2, cp2, ad2, by omega, by go_num, rfl, hid (by rw [HL.out]; exact HO2.out), HB2.out⟩
      case measure => simp [RowKit.intOf]; omega
    · obtain rfl : k = s.size := by omega
      have HE := hid (show (34 :: (s.data.toList.take s.size).flatMap escB) = 34 :: s.data.toList.flatMap escB by rw [List.take_of_length_le (by rw [Array.length_toList]; exact Nat.le_refl _)])
      have HO1 := hid (show OwnB wr w.heap.size (.slice ad n cp) (34 :: s.data.toList.flatMap escB) by rw [← HE.out]; exact HO.out)
      have hlen : (34 :: s.data.toList.flatMap escB).length + 1 ≤ 140737488355328 := by
        have := escs_len s.data.toList
        have h2 := HS.out
        have h3 : s.data.toList.length = s.size := Array.length_toList
        simp only [List.length_cons]
        omega
      go_wp2_with (at_builtin; refine wpList_app rfl (.tmp 17) (.tmp 18) rfl w.heap.size (.slice ad n cp) (34 :: s.data.toList.flatMap escB) rfl (HO1.out.alloc _) wr.heap.size [34] 1 rfl (heap_b rfl) hlen (by simp; omega) ?_; intro ad1 n1 cp1 w1 hn1 ho hb1 _; have hstr := own_str ho; have HB1 := hid ((HB.out.alloc hbs _).trans hb1); clear ho hb1)
      go_ret
      exact ⟨rfl, HB1.out⟩
end Go.Proofs.YtfljcfdfgojdoaaGreatDoor.Sh

namespace Go.Proofs.YtfljcfdfgojdoaaGreatDoor.Sh
open Go.RowKit Go.Lib Go.Proofs.YtfljcfdfgojdoaaGreatDoor

def wordS (s : Se) (i : Nat) : Int := if i = 0 then s.a else if i = 1 then s.b else if i = 2 then s.c else s.d
def hasS (s : Se) (b : Nat) : Bool := decide (wordS s (b / 64) / 2 ^ (b % 64) % 2 = 1)
/-- a word of a set -/
def wOk (x : Int) : Prop := 0 ≤ x ∧ x < 18446744073709551616
structure SeOk (s : Se) : Prop where
  a : wOk s.a
  b : wOk s.b
  c : wOk s.c
  d : wOk s.d
theorem wrap_u64 (x : Nat) (h : x < 18446744073709551616) : IntKind.u64.wrap (x : Int) = x := by
  show (x : Int) % (2 ^ 64 : Int) = x
  omega
theorem wrap_u64m (x : Nat) : IntKind.u64.wrap (x : Int) = ((x % 18446744073709551616 : Nat) : Int) := by
  show (x : Int) % (2 ^ 64 : Int) = _
  omega
theorem and_u64 (x y : Nat) (hx : x < 18446744073709551616) (hy : y < 18446744073709551616) : bits .and .u64 (x : Int) (y : Int) = ((x &&& y : Nat) : Int) := by
  have hz : x &&& y < 2 ^ 64 := Nat.and_lt_two_pow _ (by omega)
  have h1 : (BitVec.ofInt 64 (x : Int)).toNat = x := by
    rw [BitVec.ofInt_natCast, BitVec.toNat_ofNat]; exact Nat.mod_eq_of_lt (by omega)
  have h2 : (BitVec.ofInt 64 (y : Int)).toNat = y := by
    rw [BitVec.ofInt_natCast, BitVec.toNat_ofNat]; exact Nat.mod_eq_of_lt (by omega)
  show IntKind.u64.wrap ((BitVec.ofInt 64 (x : Int) &&& BitVec.ofInt 64 (y : Int)).toNat : Int) = _
  rw [BitVec.toNat_and, h1, h2]
  exact wrap_u64 _ (by omega)
theorem bit_nat (m k : Nat) : decide ((m : Int) / 2 ^ k % 2 = 1) = m.testBit k := by
  rw [Nat.testBit_eq_decide_div_mod_eq]
  have e : ((m : Int) / 2 ^ k % 2) = ((m / 2 ^ k % 2 : Nat) : Int) := by
    rw [Int.natCast_emod, Int.natCast_ediv]; simp
  rw [e]
  exact decide_eq_decide.2 (by omega)
theorem step_eq (x k m : Nat) (hx : x < 18446744073709551616) (hm : m < 18446744073709551616) (h : (x / k &&& m) + (x &&& m) < 18446744073709551616) (ki mi : Int) (hk : ki = k) (hmi : mi = m) :
    IntKind.u64.wrap (bits .and .u64 ((x : Int) / ki) mi + bits .and .u64 (x : Int) mi) = (((x / k &&& m) + (x &&& m) : Nat) : Int) := by
  subst hk hmi
  have h1 : x / k ≤ x := Nat.div_le_self _ _
  rw [← Int.natCast_ediv, and_u64 _ _ (by omega) hm, and_u64 _ _ hx hm, ← Int.natCast_add, wrap_u64 _ h]
theorem fold_eq (x k : Nat) (ki : Int) (hk : ki = k) : IntKind.u64.wrap ((x : Int) + (x : Int) / ki) = (((x + x / k) % 18446744073709551616 : Nat) : Int) := by
  subst hk
  rw [← Int.natCast_ediv, ← Int.natCast_add, wrap_u64m]
theorem wrap_small {z : Int} (h0 : 0 ≤ z) (h1 : z < 1000000) : IntKind.i64.wrap z = z := by rw [IntKind.wrap_i64]; omega
theorem and127 (x : Nat) (h : x < 18446744073709551616) : bits .and .i64 (RowKit.wrap64 (x : Int)) 127 = ((x % 128 : Nat) : Int) := by
  have h1 : (BitVec.ofInt 64 (RowKit.wrap64 (x : Int))).toNat = x := by
    rw [BitVec.toNat_ofInt]; unfold RowKit.wrap64; omega
  have h2 : (BitVec.ofInt 64 (127 : Int)).toNat = 127 := by decide
  have e : (BitVec.ofInt 64 (RowKit.wrap64 (x : Int)) &&& BitVec.ofInt 64 (127 : Int)).toNat = x % 128 := by
    rw [BitVec.toNat_and, h1, h2, show (127 : Nat) = 2 ^ 7 - 1 from rfl, Nat.and_two_pow_sub_one_eq_mod]
  show IntKind.i64.wrap ((BitVec.ofInt 64 (RowKit.wrap64 (x : Int)) &&& BitVec.ofInt 64 (127 : Int)).toNat : Int) = _
  rw [e]
  have : x % 128 < 128 := Nat.mod_lt _ (by decide)
  exact wrap_small (by omega) (by omega)
set_option maxRecDepth 100000 in
theorem ones_any (x : Nat) (hx : x < 18446744073709551616) (w : World) :
    Calls Tryz.prog 198 #[.int .u64 x] w fun e w' => e = .returned (.int .i64 (manyP x.testBit 64)) ∧ w' = w := by
  obtain ⟨a, ha⟩ : ∃ a, a = ((x / 2) &&& 6148914691236517205) + (x &&& 6148914691236517205) := ⟨_, rfl⟩
  obtain ⟨b, hb⟩ : ∃ b, b = ((a / 4) &&& 3689348814741910323) + (a &&& 3689348814741910323) := ⟨_, rfl⟩
  obtain ⟨c, hc⟩ : ∃ c, c = (b / 16 + b) &&& 1085102592571150095 := ⟨_, rfl⟩
  obtain ⟨y, hy⟩ : ∃ y, y = (c + c / 256) % 18446744073709551616 := ⟨_, rfl⟩
  obtain ⟨z, hz⟩ : ∃ z, z = (y + y / 65536) % 18446744073709551616 := ⟨_, rfl⟩
  obtain ⟨t, ht⟩ : ∃ t, t = (z + z / 4294967296) % 18446744073709551616 := ⟨_, rfl⟩
  obtain ⟨l1, l2, l3, l4, l5⟩ := pop_law hx ha hb hc hy hz ht
  have HA := hid (step_eq x 2 6148914691236517205 hx (by decide) (by rw [← ha]; exact l1) 2 6148914691236517205 rfl rfl)
  have HB := hid (step_eq a 4 3689348814741910323 l1 (by decide) (by rw [← hb]; exact l2) 4 3689348814741910323 rfl rfl)
  have HC := hid (show bits .and .u64 ((b : Int) / 16 + b) 1085102592571150095 = (c : Int) by
    rw [show ((b : Int) / 16 + b) = ((b / 16 + b : Nat) : Int) by omega, show (1085102592571150095 : Int) = ((1085102592571150095 : Nat) : Int) from rfl, and_u64 _ _ l3 (by decide), ← hc])
  have HY := hid (fold_eq c 256 256 rfl)
  have HZ := hid (fold_eq y 65536 65536 rfl)
  have HT := hid (fold_eq z 4294967296 4294967296 rfl)
  have HL := hid l5
  have HF := hid (and127 t (by rw [ht]; exact Nat.mod_lt _ (by decide)))
  have hat := hid (And.intro ha (And.intro hb (And.intro hy (And.intro hz ht))))
  clear ha hb hc hy hz ht l5
  go_enter Tryz.func198, Tryz.ntmps198
  go_upto_region 2 with fail
  rw [HA.out, ← hat.out.1]
  go_upto_region 3 with fail
  rw [HB.out, ← hat.out.2.1]
  go_upto_region 4 with fail
  rw [HC.out]
  go_upto_region 5 with fail
  rw [HY.out, ← hat.out.2.2.1]
  go_upto_region 6 with fail
  rw [HZ.out, ← hat.out.2.2.2.1]
  go_upto_region 7 with fail
  rw [HT.out, ← hat.out.2.2.2.2]
  go_wp2_with fail
  go_ret
  exact ⟨congrArg (fun n : Int => Ending.returned (.int .i64 n)) (HF.out.trans (by rw [HL.out])), rfl⟩
theorem manyP_le (p : Nat → Bool) (c : Nat) : manyP p c ≤ c := by unfold manyP; exact Nat.le_trans (List.length_filter_le _ _) (by simp)
def preM (a b c d : Nat) : Nat → Nat
  | 0 => 0
  | 1 => 0 + manyP a.testBit 64
  | 2 => 0 + manyP a.testBit 64 + manyP b.testBit 64
  | 3 => 0 + manyP a.testBit 64 + manyP b.testBit 64 + manyP c.testBit 64
  | _ => 0 + manyP a.testBit 64 + manyP b.testBit 64 + manyP c.testBit 64 + manyP d.testBit 64
theorem size_law (s : Se) (hs : SeOk s) : manyP s.a.toNat.testBit 64 + manyP s.b.toNat.testBit 64 + manyP s.c.toNat.testBit 64 + manyP s.d.toNat.testBit 64 = manyP (hasS s) 256 := by
  have e : ∀ (x : Int) (i : Nat), wOk x → wordS s i = x → manyP (fun k => hasS s (64 * i + k)) 64 = manyP x.toNat.testBit 64 := fun x i hx hw => manyP_ext fun k hk => by
    obtain ⟨n, rfl⟩ := Int.eq_ofNat_of_zero_le hx.1
    unfold hasS
    rw [show (64 * i + k) / 64 = i by omega, show (64 * i + k) % 64 = k by omega, hw]
    exact bit_nat n k
  have e0 := e s.a 0 hs.a rfl
  have e1 := e s.b 1 hs.b rfl
  have e2 := e s.c 2 hs.c rfl
  have e3 := e s.d 3 hs.d rfl
  simp only [Nat.mul_zero, Nat.zero_add] at e0
  rw [show (256 : Nat) = 64 + (64 + (64 + 64)) from rfl, manyP_add, manyP_add, manyP_add]
  simp only [← Nat.add_assoc]
  rw [← e0, ← e1, ← e2, ← e3]
set_option maxRecDepth 100000 in
set_option maxHeartbeats 400000 in
theorem size_any (s : Se) (hs : SeOk s) (w : World) :
    Calls Tryz.prog 173 #[s.v] w fun e w' => e = .returned (.int .i64 (manyP (hasS s) 256)) ∧ Below w.heap.size w w' := by
  have HL := hid (size_law s hs)
  obtain ⟨xa, xb, xc, xd⟩ := s
  obtain ⟨ha, hb, hc, hd⟩ := hs
  obtain ⟨a, rfl⟩ := Int.eq_ofNat_of_zero_le ha.1
  obtain ⟨b, rfl⟩ := Int.eq_ofNat_of_zero_le hb.1
  obtain ⟨c, rfl⟩ := Int.eq_ofNat_of_zero_le hc.1
  obtain ⟨d, rfl⟩ := Int.eq_ofNat_of_zero_le hd.1
  have ha2 := ha.2
  have hb2 := hb.2
  have hc2 := hc.2
  have hd2 := hd.2
  dsimp only at ha2 hb2 hc2 hd2
  have b0 : manyP a.testBit 64 ≤ 64 := manyP_le _ _
  have b1 : manyP b.testBit 64 ≤ 64 := manyP_le _ _
  have b2 : manyP c.testBit 64 ≤ 64 := manyP_le _ _
  have b3 : manyP d.testBit 64 ≤ 64 := manyP_le _ _
  have HL2 : Hid (0 + manyP a.testBit 64 + manyP b.testBit 64 + manyP c.testBit 64 + manyP d.testBit 64 = manyP (hasS ⟨(a : Int), b, c, d⟩) 256) := hid (by rw [Nat.zero_add]; exact HL.out)
  clear HL ha hb hc hd
  have HB := hid ((Below.refl w.heap.size w).alloc (Nat.le_refl _) (.cells #[.int .u64 (a : Int), .int .u64 (b : Int), .int .u64 (c : Int), .int .u64 (d : Int)] 30))
  have hblk : (w.alloc (.cells #[.int .u64 (a : Int), .int .u64 (b : Int), .int .u64 (c : Int), .int .u64 (d : Int)] 30)).heap[w.heap.size]? = some (.cells #[.int .u64 (a : Int), .int .u64 (b : Int), .int .u64 (c : Int), .int .u64 (d : Int)] 30 (0, 0)) := heap_alloc_new _ _
  have c0 := cell_blk (i := 0) hblk rfl
  have c1 := cell_blk (i := 1) hblk rfl
  have c2 := cell_blk (i := 2) hblk rfl
  have c3 := cell_blk (i := 3) hblk rfl
  clear hblk
  go_enter Tryz.func173, Tryz.ntmps173
  go_wp2_with fail
  go_loopw [3, 7] (fun n i wr => ∃ (k m : Nat), k ≤ 4 ∧ i = .int .i64 k ∧ n = .int .i64 m ∧ Hid (m = preM a b c d k) ∧ m ≤ 64 * k ∧ Below w.heap.size w wr) (fun _ i _ => 4 - (RowKit.intOf i).toNat)
  case atStart => exact ⟨0, 0, by decide, rfl, rfl, rfl, by decide, HB.out⟩
  case round =>
    obtain ⟨k, m, hk, hi, rfl, HM, hm, hb⟩ := hrel
    have HB2 := hid hb
    clear hb
    by_cases hlt : k < 4
    · rcases (by omega : k = 0 ∨ k = 1 ∨ k = 2 ∨ k = 3) with rfl | rfl | rfl | rfl
      · have hi0 := hi.trans (show Value.int .i64 ((0 : Nat) : Int) = Value.int .i64 0 from rfl)
        subst hi0
        clear hi
        have i0 : ∀ (x0 x1 x2 x3 : Value) (w : World), (Instr.index 30 (.agg #[x0, x1, x2, x3]) (.int .i64 0)).run Tryz.prog w = .ok x0 w := fun _ _ _ _ _ => by kernel_rfl
        have hc := ones_any a (by omega) wr
        go_wp2_with (go_at_call 198; refine hc.mono ?_; clear hc; rintro e w' ⟨rfl, rfl⟩)
        go_roundw
        case rel => exact ⟨1, m + manyP (Nat.testBit a) 64, by decide, by rfl, by go_num, hid (by rw [HM.out]; rfl), by omega, HB2.out⟩
        case measure => decide
      · have hi0 := hi.trans (show Value.int .i64 ((1 : Nat) : Int) = Value.int .i64 1 from rfl)
        subst hi0
        clear hi
        have i1 : ∀ (x0 x1 x2 x3 : Value) (w : World), (Instr.index 30 (.agg #[x0, x1, x2, x3]) (.int .i64 1)).run Tryz.prog w = .ok x1 w := fun _ _ _ _ _ => by kernel_rfl
        have hc := ones_any b (by omega) wr
        go_wp2_with (go_at_call 198; refine hc.mono ?_; clear hc; rintro e w' ⟨rfl, rfl⟩)
        go_roundw
        case rel => exact ⟨2, m + manyP (Nat.testBit b) 64, by decide, by rfl, by go_num, hid (by rw [HM.out]; rfl), by omega, HB2.out⟩
        case measure => decide
      · have hi0 := hi.trans (show Value.int .i64 ((2 : Nat) : Int) = Value.int .i64 2 from rfl)
        subst hi0
        clear hi
        have i2 : ∀ (x0 x1 x2 x3 : Value) (w : World), (Instr.index 30 (.agg #[x0, x1, x2, x3]) (.int .i64 2)).run Tryz.prog w = .ok x2 w := fun _ _ _ _ _ => by kernel_rfl
        have hc := ones_any c (by omega) wr
        go_wp2_with (go_at_call 198; refine hc.mono ?_; clear hc; rintro e w' ⟨rfl, rfl⟩)
        go_roundw
        case rel => exact ⟨3, m + manyP (Nat.testBit c) 64, by decide, by rfl, by go_num, hid (by rw [HM.out]; rfl), by omega, HB2.out⟩
        case measure => decide
      · have hi0 := hi.trans (show Value.int .i64 ((3 : Nat) : Int) = Value.int .i64 3 from rfl)
        subst hi0
        clear hi
        have i3 : ∀ (x0 x1 x2 x3 : Value) (w : World), (Instr.index 30 (.agg #[x0, x1, x2, x3]) (.int .i64 3)).run Tryz.prog w = .ok x3 w := fun _ _ _ _ _ => by kernel_rfl
        have hc := ones_any d (by omega) wr
        go_wp2_with (go_at_call 198; refine hc.mono ?_; clear hc; rintro e w' ⟨rfl, rfl⟩)
        go_roundw
        case rel => exact ⟨4, m + manyP (Nat.testBit d) 64, by decide, by rfl, by go_num, hid (by rw [HM.out]; rfl), by omega, HB2.out⟩
        case measure => decide
    · obtain rfl : k = 4 := by omega
      have hi0 := hi.trans (show Value.int .i64 ((4 : Nat) : Int) = Value.int .i64 4 from rfl)
      subst hi0
      have HE := hid (show m = manyP (hasS ⟨(a : Int), b, c, d⟩) 256 from HM.out.trans HL2.out)
      go_wp2_with fail
      go_ret
      rw [HE.out]
      exact ⟨rfl, HB2.out⟩
end Go.Proofs.YtfljcfdfgojdoaaGreatDoor.Sh

namespace Go.Proofs.YtfljcfdfgojdoaaGreatDoor.Sh
open Go.RowKit Go.Lib Go.Proofs.YtfljcfdfgojdoaaGreatDoor

theorem and_one (y : Int) : bits .and .u64 y 1 = y % 2 := by
  have h1 : (BitVec.ofInt 64 (1 : Int)).toNat = 1 := by decide
  have h2 : (BitVec.ofInt 64 y).toNat = (y % 18446744073709551616).toNat := by
    rw [BitVec.toNat_ofInt]; rfl
  show IntKind.u64.wrap ((BitVec.ofInt 64 y &&& BitVec.ofInt 64 (1 : Int)).toNat : Int) = _
  rw [BitVec.toNat_and, h1, h2, Nat.and_one_is_mod, wrap_u64 _ (by omega)]
  omega
theorem and_one_eq (y : Int) : (bits .and .u64 y 1 == 1) = decide (y % 2 = 1) := by
  rw [and_one]
  by_cases h : y % 2 = 1 <;> simp [h]
set_option maxHeartbeats 1000000 in
theorem has_any (s : Se) (n : Nat) (hc : n < 256) (w : World) :
    Calls Tryz.prog 224 #[s.v, .int .u8 n] w fun e w' => e = .returned (.bool (hasS s n)) ∧ Below w.heap.size w w' := by
  obtain ⟨x0, x1, x2, x3⟩ := s
  have hcase : n / 64 = 0 ∨ n / 64 = 1 ∨ n / 64 = 2 ∨ n / 64 = 3 := by omega
  rcases hcase with hq | hq | hq | hq
  all_goals
    have hq' : (n : Int) / 64 = _ := (by omega : _ = ((n / 64 : Nat) : Int)).trans (congrArg _ hq)
    simp only [Int.cast_ofNat_Int] at hq'
    have HQ := hid hq
    clear hq
    go_enter Tryz.func224, Tryz.ntmps224
    go_wp2
    go_ret
    refine ⟨?_, ?_⟩
    · simp [hasS, wordS, HQ.out, and_one_eq]
    · exact (Below.refl _ _).alloc (Nat.le_refl _) _
end Go.Proofs.YtfljcfdfgojdoaaGreatDoor.Sh

namespace Go.Proofs.YtfljcfdfgojdoaaGreatDoor.Sh
open Go.RowKit Go.Lib Go.Proofs.YtfljcfdfgojdoaaGreatDoor

theorem rowsTo_succ (p : Nat → Bool) (c : Nat) : rowsTo p (c + 1) = rowsTo p c ++ (if lastP p c = true then [(startP p c, c)] else []) := by
  unfold rowsTo
  rw [List.range_succ, List.filter_append, List.map_append]
  congr 1
  by_cases h : lastP p c = true <;> simp [h]
theorem rowsTo_no {p : Nat → Bool} {c : Nat} (h : lastP p c = false) : rowsTo p (c + 1) = rowsTo p c := by
  rw [rowsTo_succ, if_neg (by rw [h]; simp), List.append_nil]
theorem rowsTo_yes {p : Nat → Bool} {c : Nat} (h : lastP p c = true) : rowsTo p (c + 1) = rowsTo p c ++ [(startP p c, c)] := by
  rw [rowsTo_succ, if_pos h]
theorem rowsTo_len (p : Nat → Bool) (c : Nat) : (rowsTo p c).length ≤ c := by
  unfold rowsTo
  rw [List.length_map]
  exact Nat.le_trans (List.length_filter_le _ _) (by simp)
theorem startP_le (p : Nat → Bool) : ∀ b, startP p b ≤ b
  | 0 => Nat.le_refl _
  | b + 1 => by
    unfold startP
    split
    · exact Nat.le_succ_of_le (startP_le p b)
    · exact Nat.le_refl _
theorem rowsTo_in {p : Nat → Bool} {c : Nat} {r : Nat × Nat} (h : r ∈ rowsTo p c) : r.1 ≤ r.2 ∧ r.2 < c := by
  unfold rowsTo at h
  obtain ⟨b, hb, rfl⟩ := List.mem_map.1 h
  exact ⟨startP_le p b, List.mem_range.1 (List.mem_filter.1 hb).1⟩
/-- a row's first byte is its own start; the next ones share it -/
theorem startP_new {p : Nat → Bool} {c : Nat} (h : c = 0 ∨ p (c - 1) = false) : startP p c = c := by
  cases c with
  | zero => rfl
  | succ c =>
    have h' : p c = false := by simpa using h
    unfold startP
    rw [if_neg (by rw [h']; simp)]
theorem startP_on {p : Nat → Bool} {c : Nat} (h : p c = true) : startP p (c + 1) = startP p c := by
  rw [startP, if_pos h]
theorem xor_bit (x : Int) (hx : wOk x) (k : Nat) (hk : k < 64) : decide (bits .xor .u64 IntKind.u64.max x / 2 ^ k % 2 = 1) = !decide (x / 2 ^ k % 2 = 1) := by
  obtain ⟨n, rfl⟩ := Int.eq_ofNat_of_zero_le hx.1
  have hn : n < 2 ^ 64 := by have := hx.2; omega
  have h1 : (BitVec.ofInt 64 IntKind.u64.max).toNat = 2 ^ 64 - 1 := by decide
  have h2 : (BitVec.ofInt 64 (n : Int)).toNat = n := by
    rw [BitVec.ofInt_natCast, BitVec.toNat_ofNat]; exact Nat.mod_eq_of_lt hn
  have h3 : bits .xor .u64 IntKind.u64.max (n : Int) = (((2 ^ 64 - 1) ^^^ n : Nat) : Int) := by
    show IntKind.u64.wrap ((BitVec.ofInt 64 IntKind.u64.max ^^^ BitVec.ofInt 64 (n : Int)).toNat : Int) = _
    rw [BitVec.toNat_xor, h1, h2]
    exact wrap_u64 _ (Nat.xor_lt_two_pow (n := 64) (by decide) hn)
  rw [h3, bit_nat, bit_nat, Nat.testBit_xor, Nat.testBit_two_pow_sub_one]
  simp [hk]
theorem has_not {s : Se} (hs : SeOk s) {b : Nat} (hb : b < 256) : hasS (notS s) b = !hasS s b := by
  unfold hasS
  have hk : b % 64 < 64 := Nat.mod_lt _ (by decide)
  rcases (by omega : b / 64 = 0 ∨ b / 64 = 1 ∨ b / 64 = 2 ∨ b / 64 = 3) with h | h | h | h <;> rw [h]
  · exact xor_bit s.a hs.a _ hk
  · exact xor_bit s.b hs.b _ hk
  · exact xor_bit s.c hs.c _ hk
  · exact xor_bit s.d hs.d _ hk
theorem SeOk.nots {s : Se} (hs : SeOk s) : SeOk (notS s) := by
  have e : ∀ x, wOk x → wOk (bits .xor .u64 IntKind.u64.max x) := fun x hx => by
    obtain ⟨n, rfl⟩ := Int.eq_ofNat_of_zero_le hx.1
    have hn : n < 2 ^ 64 := by have := hx.2; omega
    have h1 : (BitVec.ofInt 64 IntKind.u64.max).toNat = 2 ^ 64 - 1 := by decide
    have h2 : (BitVec.ofInt 64 (n : Int)).toNat = n := by
      rw [BitVec.ofInt_natCast, BitVec.toNat_ofNat]; exact Nat.mod_eq_of_lt hn
    have h4 : (2 ^ 64 - 1) ^^^ n < 2 ^ 64 := Nat.xor_lt_two_pow (n := 64) (by decide) hn
    have h3 : bits .xor .u64 IntKind.u64.max (n : Int) = (((2 ^ 64 - 1) ^^^ n : Nat) : Int) := by
      show IntKind.u64.wrap ((BitVec.ofInt 64 IntKind.u64.max ^^^ BitVec.ofInt 64 (n : Int)).toNat : Int) = _
      rw [BitVec.toNat_xor, h1, h2]
      exact wrap_u64 _ h4
    rw [h3]
    exact ⟨by omega, by omega⟩
  exact ⟨e _ hs.a, e _ hs.b, e _ hs.c, e _ hs.d⟩
end Go.Proofs.YtfljcfdfgojdoaaGreatDoor.Sh
