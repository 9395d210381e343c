/-
  The contracts of name, begins, often and number.
-/
import Derived.Test.YtcedjjlflahpcaaParB
namespace Go.Proofs.Ytcedjjlflahpcaa
open Go.RowKit Go.Lib

set_option maxRecDepth 100000 in
set_option maxHeartbeats 1000000 in
theorem name_yes {T : List Tok} {bp bt cap a dep : Nat} {w : World} (h : Pz T bp bt cap a dep w) (h1 : reservedB (tokAt T a).text = false) (h2 : ((tokAt T a).kind != 1) = false) :
    Calls Try.prog 47 #[.pointer (some ⟨bp, 0, none⟩)] w fun e w' => e = .returned (.string ⟨(tokAt T a).text.toArray⟩) ∧ Kept bp w w' ∧ Pz T bp bt cap (a + 1) dep w' := by
  have q1 := field1
  have H1 := hid h1
  clear h1
  go_enter Try.func47, Try.ntmps47
  go_wp2_with (first | (go_at_call 22; refine (tok_any h).mono ?_; rintro e w1 ⟨rfl, hb⟩; simp only [Tok.cells]) | (go_at_call 36; refine (reserved_any _ _).mono ?_; rintro e w2 ⟨rfl, rfl⟩; simp only [H1.out]) | (go_at_call 30; refine (of_yes (h.below hb) 1 (by decide) h2).mono ?_; rintro e w2 ⟨rfl, hk, hz⟩; simp only [Tok.cells]))
  go_ret
  exact ⟨rfl, (Kept.of_below hb).trans hk, hz⟩
set_option maxRecDepth 100000 in
set_option maxHeartbeats 1000000 in
theorem name_no1 {T : List Tok} {bp bt cap a dep : Nat} {w : World} (h : Pz T bp bt cap a dep w) (h1 : reservedB (tokAt T a).text = true) :
    Calls Try.prog 47 #[.pointer (some ⟨bp, 0, none⟩)] w fun e w' => e = faultE (tokAt T a).pos 4 ∧ Below w.heap.size w w' := by
  have q1 := field1
  have H1 := hid h1
  clear h1
  go_enter Try.func47, Try.ntmps47
  go_wp2_with (first | (go_at_call 22; refine (tok_any h).mono ?_; rintro e w1 ⟨rfl, hb⟩; simp only [Tok.cells]) | (go_at_call 36; refine (reserved_any _ _).mono ?_; rintro e w2 ⟨rfl, rfl⟩; simp only [H1.out]) | (go_at_call 23; refine (fail_any (h.below hb) _).mono ?_; rintro e w2 ⟨rfl, hb2⟩))
  exact ⟨rfl, rfl, hb.trans (hb2.mono hb.size)⟩
set_option maxRecDepth 100000 in
set_option maxHeartbeats 1000000 in
theorem name_no2 {T : List Tok} {bp bt cap a dep : Nat} {w : World} (h : Pz T bp bt cap a dep w) (h1 : reservedB (tokAt T a).text = false) (h2 : ((tokAt T a).kind != 1) = true) :
    Calls Try.prog 47 #[.pointer (some ⟨bp, 0, none⟩)] w fun e w' => e = faultE (tokAt T a).pos 4 ∧ Below w.heap.size w w' := by
  have q1 := field1
  have H1 := hid h1
  clear h1
  go_enter Try.func47, Try.ntmps47
  go_wp2_with (first | (go_at_call 22; refine (tok_any h).mono ?_; rintro e w1 ⟨rfl, hb⟩; simp only [Tok.cells]) | (go_at_call 36; refine (reserved_any _ _).mono ?_; rintro e w2 ⟨rfl, rfl⟩; simp only [H1.out]) | (go_at_call 30; refine (of_no (h.below hb) 1 h2).mono ?_; rintro e w2 ⟨rfl, hb2⟩))
  exact ⟨rfl, rfl, hb.trans (hb2.mono hb.size)⟩

theorem bnext {w w1 w2 : World} (h : Below w.heap.size w w1) (k : Below w1.heap.size w1 w2) : Below w.heap.size w w2 := h.trans (k.mono h.size)
theorem bbox {w w1 : World} (h : Below w.heap.size w w1) (o : Obj) : Below w.heap.size w (w1.alloc o) := h.alloc h.size o

set_option maxRecDepth 100000 in
set_option maxHeartbeats 1000000 in
theorem begins_any {T : List Tok} {bp bt cap a dep : Nat} {w : World} (h : Pz T bp bt cap a dep w) :
    Calls Try.prog 45 #[.pointer (some ⟨bp, 0, none⟩)] w fun e w' => e = .returned (.bool (beginsB (tokAt T a))) ∧ Below w.heap.size w w' := by
  cases k2 : ((tokAt T a).kind == 2)
  · cases k3 : ((tokAt T a).kind == 3)
    · cases k1 : ((tokAt T a).kind == 1)
      · cases hd : isB (tokAt T a) [46]
        · have hm : Hid (beginsB (tokAt T a) = isB (tokAt T a) [40]) := by show _ = _; simp [beginsB, k1, k2, k3, hd]
          have HD := hid hd
          clear hd
          go_enter Try.func45, Try.ntmps45
          go_wp2_with (first | (go_at_call 22; refine (tok_any h).mono ?_; rintro e w1 ⟨rfl, hb⟩; simp only [Tok.cells]; have hz := h.below (hb.alloc hb.size (.cells (tokAt T a).cells 63))) | (go_at_call_of 43 (Value.string ⟨#[46]⟩); refine (is_any hz _).mono ?_; rintro e w2 ⟨rfl, hb2⟩; simp only [HD.out]) | (go_at_call_of 43 (Value.string ⟨#[40]⟩); refine (is_any (hz.below hb2) _).mono ?_; rintro e w3 ⟨rfl, hb3⟩))
          go_ret
          exact ⟨bool_eq hm.out.symm, bnext (bnext (bbox hb _) hb2) hb3⟩
        · have hm : Hid (beginsB (tokAt T a) = true) := by show _ = _; simp [beginsB, k1, k2, k3, hd]
          have HD := hid hd
          clear hd
          go_enter Try.func45, Try.ntmps45
          go_wp2_with (first | (go_at_call 22; refine (tok_any h).mono ?_; rintro e w1 ⟨rfl, hb⟩; simp only [Tok.cells]; have hz := h.below (hb.alloc hb.size (.cells (tokAt T a).cells 63))) | (go_at_call_of 43 (Value.string ⟨#[46]⟩); refine (is_any hz _).mono ?_; rintro e w2 ⟨rfl, hb2⟩; simp only [HD.out]))
          go_ret
          exact ⟨bool_eq hm.out.symm, bnext (bbox hb _) hb2⟩
      · have hm : Hid (beginsB (tokAt T a) = !reservedB (tokAt T a).text) := by show _ = _; simp [beginsB, k1, k2, k3]
        go_enter Try.func45, Try.ntmps45
        go_wp2_with (first | (go_at_call 22; refine (tok_any h).mono ?_; rintro e w1 ⟨rfl, hb⟩; simp only [Tok.cells]; have hz := h.below (hb.alloc hb.size (.cells (tokAt T a).cells 63))) | (go_at_call 36; refine (reserved_any _ _).mono ?_; rintro e w2 ⟨rfl, rfl⟩))
        go_ret
        exact ⟨bool_eq hm.out.symm, bbox hb _⟩
    · have hm : Hid (beginsB (tokAt T a) = true) := by show _ = _; simp [beginsB, k2, k3]
      go_enter Try.func45, Try.ntmps45
      go_wp2_with (go_at_call 22; refine (tok_any h).mono ?_; rintro e w1 ⟨rfl, hb⟩; simp only [Tok.cells]; have hz := h.below (hb.alloc hb.size (.cells (tokAt T a).cells 63)))
      go_ret
      exact ⟨bool_eq hm.out.symm, bbox hb _⟩
  · have hm : Hid (beginsB (tokAt T a) = true) := by show _ = _; simp [beginsB, k2]
    go_enter Try.func45, Try.ntmps45
    go_wp2_with (go_at_call 22; refine (tok_any h).mono ?_; rintro e w1 ⟨rfl, hb⟩; simp only [Tok.cells]; have hz := h.below (hb.alloc hb.size (.cells (tokAt T a).cells 63)))
    go_ret
    exact ⟨bool_eq hm.out.symm, bbox hb _⟩

/-- what often leaves -/
def OftenPost (T : List Tok) (bp bt cap a dep : Nat) (w : World) (e : Ending) (w' : World) : Prop :=
  e = .returned (.tuple #[.int .i64 (oftenM T a).least, .int .i64 (oftenM T a).most, .bool (oftenM T a).ok]) ∧ Kept bp w w' ∧ Pz T bp bt cap (oftenM T a).next dep w'
set_option maxRecDepth 100000 in
set_option maxHeartbeats 1000000 in
theorem often_any {T : List Tok} {bp bt cap a dep : Nat} {w : World} (h : Pz T bp bt cap a dep w) :
    Calls Try.prog 67 #[.pointer (some ⟨bp, 0, none⟩)] w (OftenPost T bp bt cap a dep w) := by
  cases h1 : isB (tokAt T a) [42]
  · cases h2 : isB (tokAt T a) [43]
    · cases h3 : isB (tokAt T a) [63]
      · have hm : Hid (oftenM T a = ⟨0, 0, false, a⟩) := by show _ = _; simp [oftenM, h1, h2, h3]
        go_enter Try.func67, Try.ntmps67
        go_wp2_with (first | (go_at_call_of 33 (Value.string ⟨#[42]⟩); refine (take_no h _ h1).mono ?_; rintro e w1 ⟨rfl, hb1⟩) | (go_at_call_of 33 (Value.string ⟨#[43]⟩); refine (take_no (h.below hb1) _ h2).mono ?_; rintro e w2 ⟨rfl, hb2⟩) | (go_at_call_of 33 (Value.string ⟨#[63]⟩); refine (take_no ((h.below hb1).below hb2) _ h3).mono ?_; rintro e w3 ⟨rfl, hb3⟩))
        go_ret3
        unfold OftenPost
        rw [hm.out]
        exact ⟨rfl, Kept.of_below (bnext (bnext hb1 hb2) hb3), ((h.below hb1).below hb2).below hb3⟩
      · have hm : Hid (oftenM T a = ⟨0, 1, true, a + 1⟩) := by show _ = _; simp [oftenM, h1, h2, h3]
        go_enter Try.func67, Try.ntmps67
        go_wp2_with (first | (go_at_call_of 33 (Value.string ⟨#[42]⟩); refine (take_no h _ h1).mono ?_; rintro e w1 ⟨rfl, hb1⟩) | (go_at_call_of 33 (Value.string ⟨#[43]⟩); refine (take_no (h.below hb1) _ h2).mono ?_; rintro e w2 ⟨rfl, hb2⟩) | (go_at_call_of 33 (Value.string ⟨#[63]⟩); refine (take_yes ((h.below hb1).below hb2) _ h3).mono ?_; rintro e w3 ⟨rfl, hk3, hz3⟩))
        go_ret3
        unfold OftenPost
        rw [hm.out]
        exact ⟨rfl, (Kept.of_below (bnext hb1 hb2)).trans hk3, hz3⟩
    · have hm : Hid (oftenM T a = ⟨1, -1, true, a + 1⟩) := by show _ = _; simp [oftenM, h1, h2]
      go_enter Try.func67, Try.ntmps67
      go_wp2_with (first | (go_at_call_of 33 (Value.string ⟨#[42]⟩); refine (take_no h _ h1).mono ?_; rintro e w1 ⟨rfl, hb1⟩) | (go_at_call_of 33 (Value.string ⟨#[43]⟩); refine (take_yes (h.below hb1) _ h2).mono ?_; rintro e w3 ⟨rfl, hk3, hz3⟩))
      go_ret3
      unfold OftenPost
      rw [hm.out]
      exact ⟨rfl, (Kept.of_below hb1).trans hk3, hz3⟩
  · have hm : Hid (oftenM T a = ⟨0, -1, true, a + 1⟩) := by show _ = _; simp [oftenM, h1]
    go_enter Try.func67, Try.ntmps67
    go_wp2_with (go_at_call_of 33 (Value.string ⟨#[42]⟩); refine (take_yes h _ h1).mono ?_; rintro e w3 ⟨rfl, hk3, hz3⟩)
    go_ret3
    unfold OftenPost
    rw [hm.out]
    exact ⟨rfl, hk3, hz3⟩

set_option maxRecDepth 100000 in
set_option maxHeartbeats 1000000 in
theorem number_ok {T : List Tok} {bp bt cap a dep : Nat} {w : World} (h : Pz T bp bt cap a dep w) (least : Int) (h1 : ((tokAt T a).kind != 5) = false) (h2 : ¬ (tokAt T a).num < least) (h3 : ¬ 64 < (tokAt T a).num) :
    Calls Try.prog 68 #[.pointer (some ⟨bp, 0, none⟩), .int .i64 least] w fun e w' => e = .returned (.int .i64 (tokAt T a).num) ∧ Kept bp w w' ∧ Pz T bp bt cap (a + 1) dep w' := by
  have hkd : (tokAt T a).kind ≠ 0 := by
    have : (tokAt T a).kind = 5 := by simpa using h1
    rw [this]; decide
  have hlt := step_lt h hkd
  have hfew := h.few
  clear hkd
  go_enter Try.func68, Try.ntmps68
  go_wp2_with (go_at_call 22; refine (tok_any h).mono ?_; rintro e w1 ⟨rfl, hb⟩; simp only [Tok.cells]; have hc1 := (h.below hb).c1; have hf1 := (h.below hb).f1; have hl1 := (h.below hb).bp_lt)
  go_ret
  exact ⟨rfl, ((Kept.of_below hb).set 1 _).alloc _, ((h.below hb).setAt hlt).below ((Below.refl _ _).alloc (Nat.le_refl _) _)⟩
set_option maxRecDepth 100000 in
set_option maxHeartbeats 1000000 in
theorem number_bad {T : List Tok} {bp bt cap a dep : Nat} {w : World} (h : Pz T bp bt cap a dep w) (least : Int) (hbad : ((tokAt T a).kind != 5) = true ∨ (tokAt T a).num < least ∨ 64 < (tokAt T a).num) :
    Calls Try.prog 68 #[.pointer (some ⟨bp, 0, none⟩), .int .i64 least] w fun e w' => e = faultE (tokAt T a).pos 4 ∧ Below w.heap.size w w' := by
  cases h1 : ((tokAt T a).kind != 5)
  · by_cases h2 : (tokAt T a).num < least
    · clear hbad
      go_enter Try.func68, Try.ntmps68
      go_wp2_with (first | (go_at_call 22; refine (tok_any h).mono ?_; rintro e w1 ⟨rfl, hb⟩; simp only [Tok.cells]; have hz := h.below (hb.alloc hb.size (.cells (tokAt T a).cells 63))) | (go_at_call 23; refine (fail_any hz _).mono ?_; rintro e w2 ⟨rfl, hb2⟩))
      exact ⟨rfl, rfl, bnext (bbox hb _) hb2⟩
    · have h3 : 64 < (tokAt T a).num := by
        rcases hbad with hh | hh | hh
        · rw [h1] at hh; cases hh
        · exact absurd hh h2
        · exact hh
      clear hbad
      go_enter Try.func68, Try.ntmps68
      go_wp2_with (first | (go_at_call 22; refine (tok_any h).mono ?_; rintro e w1 ⟨rfl, hb⟩; simp only [Tok.cells]; have hz := h.below (hb.alloc hb.size (.cells (tokAt T a).cells 63))) | (go_at_call 23; refine (fail_any hz _).mono ?_; rintro e w2 ⟨rfl, hb2⟩))
      exact ⟨rfl, rfl, bnext (bbox hb _) hb2⟩
  · clear hbad
    go_enter Try.func68, Try.ntmps68
    go_wp2_with (first | (go_at_call 22; refine (tok_any h).mono ?_; rintro e w1 ⟨rfl, hb⟩; simp only [Tok.cells]; have hz := h.below (hb.alloc hb.size (.cells (tokAt T a).cells 63))) | (go_at_call 23; refine (fail_any hz _).mono ?_; rintro e w2 ⟨rfl, hb2⟩))
    exact ⟨rfl, rfl, bnext (bbox hb _) hb2⟩
end Go.Proofs.Ytcedjjlflahpcaa
