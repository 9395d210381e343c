/-
  The contracts of the reader's methods number, text, bit.
-/
import Derived.Test.YtdokeelodcckoaaImgK
import Derived.Laws.IdiomStrings
namespace Go.Proofs.Ytdokeelodcckoaa.Im
open Go.RowKit Go.Lib

theorem take_len (n : Nat) (r : Rd) : (take n r).1.length = n := by
  unfold take
  split
  · simp
  · rename_i h
    simp only [Bool.or_eq_true, decide_eq_true_eq, not_or] at h
    simp only [List.length_take]; omega
theorem byteAt_lt (l : List B) (i : Nat) : byteAt l i < 256 := by unfold byteAt; exact UInt8.toNat_lt _
theorem byteAt_get {l : List B} {i : Nat} (h : i < l.length) : bV l[i] = .int .u8 (byteAt l i) := by
  unfold byteAt bV
  rw [List.getD_eq_getElem?_getD, List.getElem?_eq_getElem h]; rfl
/-- what take hands back, the bytes by their places -/
def TakeN (F : Nat → Prop) (R : Nat) (w : World) (n : Nat) (x : List B × Rd) (e : Ending) (w' : World) : Prop :=
  ∃ g off cap, e = .returned (.slice (some ⟨g, off, none⟩) n cap) ∧ (F g ∨ w.heap.size ≤ g ∧ ∃ cur, w'.heap[g]? = some (.cells cur 5 (0, 0))) ∧ (∀ i, i < n → w'.cell? ⟨g, off + i, none⟩ = some (.int .u8 (byteAt x.1 i))) ∧ RdAt F R w' x.2 ∧ Kp R w w'
theorem take_at {F : Nat → Prop} {R : Nat} {w : World} {r : Rd} {n : Nat} {z : Int} (hz : z = n) (h : RdAt F R w r) (hF : ∀ g, F g → g ≠ R) (hn : n ≤ 1000000) :
    Calls Try.prog 68 #[.pointer (some ⟨R, 0, none⟩), .int .i64 z] w (TakeN F R w n (take n r)) := by
  subst hz
  refine (take_any h hF hn).mono ?_
  rintro e w' ⟨g, off, cap, he, hg, hc, h1, h2⟩
  rw [take_len] at he
  exact ⟨g, off, cap, he, hg, fun i hi => by rw [hc i (by rw [take_len]; exact hi), byteAt_get], h1, h2⟩
theorem bits_or_i64_nat (a b : Nat) (ha : a < 4611686018427387904) (hb : b < 4611686018427387904) :
    bits .or .i64 (a : Int) (b : Int) = ((a ||| b : Nat) : Int) := by
  have hx : a ||| b < 2 ^ 62 := Nat.or_lt_two_pow (by omega) (by omega)
  have h1 : (BitVec.ofInt 64 (a : Int)).toNat = a := by
    rw [BitVec.ofInt_natCast, BitVec.toNat_ofNat]; exact Nat.mod_eq_of_lt (by omega)
  have h2 : (BitVec.ofInt 64 (b : Int)).toNat = b := by
    rw [BitVec.ofInt_natCast, BitVec.toNat_ofNat]; exact Nat.mod_eq_of_lt (by omega)
  show IntKind.i64.wrap ((BitVec.ofInt 64 (a : Int) ||| BitVec.ofInt 64 (b : Int)).toNat : Int) = _
  rw [BitVec.toNat_or, h1, h2, IntKind.wrap_i64]
  omega
theorem or_two (x y : Nat) (hx : x < 4503599627370496) (hy : y < 256) : bits .or .i64 ((x : Int) * 256) (y : Int) = 256 * (x : Int) + y := by
  have h := Nat.shiftLeft_add_eq_or_of_lt (i := 8) (b := y) (by omega) x
  rw [Nat.shiftLeft_eq] at h
  have e : ((x : Int) * 256) = ((x * 256 : Nat) : Int) := by omega
  rw [e, bits_or_i64_nat _ _ (by omega) (by omega), ← show x * 2 ^ 8 = x * 256 from rfl, ← h]
  omega
def NumPost (F : Nat → Prop) (R : Nat) (w : World) (x : Int × Rd) (e : Ending) (w' : World) : Prop :=
  e = .returned (.int .i64 x.1) ∧ RdAt F R w' x.2 ∧ Kp R w w'

theorem num_bd (m : Int) (r : Rd) : 0 ≤ (num m r).1 ∧ (num m r).1 < 65536 := by
  have b0 := byteAt_lt (take 2 r).1 0
  have b1 := byteAt_lt (take 2 r).1 1
  unfold num
  simp only
  split
  · simp
  · simp only; omega

set_option maxRecDepth 100000 in
set_option maxHeartbeats 1000000 in
theorem num_any {F : Nat → Prop} {R : Nat} {w : World} {r : Rd} {m : Int} (h : RdAt F R w r) (hF : ∀ g, F g → g ≠ R) :
    Calls Try.prog 49 #[.pointer (some ⟨R, 0, none⟩), .int .i64 m] w (NumPost F R w (num m r)) := by
  have HR := hid h
  have HF := hid hF
  clear h hF
  go_enter Try.func49, Try.ntmps49
  go_upto_region 2 with (go_at_call 68; refine (take_at (n := 2) rfl HR.out HF.out (by omega)).mono ?_; rintro e w1 ⟨g1, off1, cap1, rfl, hg1, hc1, hrd1, hkp1⟩)
  have c0 := hc1 0 (by omega)
  have c1 := hc1 1 (by omega)
  rw [Nat.add_zero] at c0
  have b0 := byteAt_lt (take 2 r).1 0
  have b1 := byteAt_lt (take 2 r).1 1
  have HRD := hid hrd1
  have HKP := hid hkp1
  have HN := hid (show num m r = (if m < 256 * (byteAt (take 2 r).1 0 : Int) + byteAt (take 2 r).1 1 then (0, ⟨(take 2 r).2.b, true⟩) else (256 * (byteAt (take 2 r).1 0 : Int) + byteAt (take 2 r).1 1, (take 2 r).2)) from rfl)
  clear hc1 hrd1 hkp1
  generalize (take 2 r).2 = r2 at *
  generalize byteAt (take 2 r).1 0 = x0 at *
  generalize byteAt (take 2 r).1 1 = x1 at *
  have hor := or_two x0 x1 (by omega) (by omega)
  have HB := hid HRD.out
  obtain ⟨gb, offb, capb, h1, h2, h3, h4, h5⟩ := HRD.out
  obtain ⟨d0, d1⟩ := twocells h1
  have f1 := free_box (i := 1) h1
  clear h1 h2 h3 h4 h5
  by_cases hm : m < 256 * (x0 : Int) + x1
  · have HN1 := hid (HN.out.trans (if_pos hm))
    go_region
    go_wp2
    go_ret
    rw [HN1.out]
    exact ⟨rfl, (HB.out.drew).setBad HF.out, (HKP.out.drew).set 1 _⟩
  · have HN1 := hid (HN.out.trans (if_neg hm))
    go_region
    go_wp2
    go_ret
    rw [HN1.out]
    exact ⟨rfl, HB.out.drew, HKP.out.drew⟩

def BitPost (F : Nat → Prop) (R : Nat) (w : World) (x : Bool × Rd) (e : Ending) (w' : World) : Prop :=
  e = .returned (.bool x.1) ∧ RdAt F R w' x.2 ∧ Kp R w w'
set_option maxRecDepth 100000 in
set_option maxHeartbeats 1000000 in
theorem bit_any {F : Nat → Prop} {R : Nat} {w : World} {r : Rd} (h : RdAt F R w r) (hF : ∀ g, F g → g ≠ R) :
    Calls Try.prog 69 #[.pointer (some ⟨R, 0, none⟩)] w (BitPost F R w (bit r)) := by
  have HR := hid h
  have HF := hid hF
  clear h hF
  go_enter Try.func69, Try.ntmps69
  go_wp2_with fail
  refine (take_at (n := 1) rfl HR.out HF.out (by omega)).mono ?_
  rintro e w1 ⟨g1, off1, cap1, rfl, hg1, hc1, hrd1, hkp1⟩
  have c0 := hc1 0 (by omega)
  rw [Nat.add_zero] at c0
  have b0 := byteAt_lt (take 1 r).1 0
  have HRD := hid hrd1
  have HKP := hid hkp1
  have HN := hid (show bit r = (decide (byteAt (take 1 r).1 0 = 1), if 1 < byteAt (take 1 r).1 0 then ⟨(take 1 r).2.b, true⟩ else (take 1 r).2) from rfl)
  clear hc1 hrd1 hkp1
  generalize (take 1 r).2 = r2 at *
  generalize byteAt (take 1 r).1 0 = x0 at *
  obtain ⟨gb, offb, capb, h1, h2, h3, h4, h5⟩ := HRD.out
  obtain ⟨d0, d1⟩ := twocells h1
  have f1 := free_box (i := 1) h1
  clear h1 h2 h3 h4 h5
  by_cases hm : 1 < x0
  · have HN1 := hid (HN.out.trans (show _ = (false, (⟨r2.b, true⟩ : Rd)) by rw [if_pos hm]; simp; omega))
    have hm' : (1 : Int) < x0 := by omega
    clear hm
    go_wp2
    go_ret
    rw [HN1.out]
    exact ⟨bool_eq (by rw [beq_eq_false_iff_ne]; omega), HRD.out.setBad HF.out, HKP.out.set 1 _⟩
  · have HN1 := hid (HN.out.trans (show _ = (decide (x0 = 1), r2) by rw [if_neg hm]))
    have hm' : ¬ (1 : Int) < x0 := by omega
    clear hm
    go_wp2
    go_ret
    rw [HN1.out]
    exact ⟨bool_eq (by rw [Bool.eq_iff_iff]; simp; omega), HRD.out, HKP.out⟩

theorem text_of {w : World} {g off cap n : Nat} {l : List B} (hl : l.length = n) (hc : ∀ i, i < n → w.cell? ⟨g, off + i, none⟩ = some (.int .u8 (byteAt l i))) :
    (convert 26 9 (.slice (some ⟨g, off, none⟩) n cap)).run Try.prog w = .ok (.string ⟨l.toArray⟩) w := by
  subst hl
  exact run_convert_bytes_back w _ _ _ _ _ l Try.underlying26 Try.underlying5 Try.underlying9 fun j hj => by
    rw [Addr.add_lit, hc j hj, ← byteAt_get hj]
def TxtPost (F : Nat → Prop) (R : Nat) (w : World) (x : List B × Rd) (e : Ending) (w' : World) : Prop :=
  e = .returned (.string ⟨x.1.toArray⟩) ∧ RdAt F R w' x.2 ∧ Kp R w w'
set_option maxRecDepth 100000 in
set_option maxHeartbeats 1000000 in
theorem txt_any {F : Nat → Prop} {R : Nat} {w : World} {r : Rd} {m : Int} (h : RdAt F R w r) (hF : ∀ g, F g → g ≠ R) :
    Calls Try.prog 51 #[.pointer (some ⟨R, 0, none⟩), .int .i64 m] w (TxtPost F R w (txt m r)) := by
  have HR := hid h
  have HF := hid hF
  clear h hF
  go_enter Try.func51, Try.ntmps51
  go_wp2_with fail
  refine (num_any HR.out HF.out).mono ?_
  rintro e w1 ⟨rfl, hrd1, hkp1⟩
  have hn0 : 0 ≤ (num m r).1 ∧ (num m r).1 < 65536 := num_bd m r
  obtain ⟨n, hn⟩ := Int.eq_ofNat_of_zero_le hn0.1
  have HT := hid (show txt m r = take n (num m r).2 by unfold txt; rw [hn]; rfl)
  have HN := hid hn
  have HRD := hid hrd1
  have HKP := hid hkp1
  have hnb : n < 65536 := by omega
  clear hn hn0 hrd1 hkp1
  go_wp2_with fail
  refine (take_at (n := n) HN.out HRD.out HF.out (by omega)).mono ?_
  rintro e w2 ⟨g2, off2, cap2, rfl, hg2, hc2, hrd2, hkp2⟩
  have kc := text_of (cap := cap2) (take_len n (num m r).2) hc2
  have HRD2 := hid hrd2
  have HKP2 := hid hkp2
  clear hc2 hrd2 hkp2
  go_wp2
  go_ret
  rw [HT.out]
  exact ⟨rfl, HRD2.out, HKP.out.trans HKP2.out⟩
end Go.Proofs.Ytdokeelodcckoaa.Im
