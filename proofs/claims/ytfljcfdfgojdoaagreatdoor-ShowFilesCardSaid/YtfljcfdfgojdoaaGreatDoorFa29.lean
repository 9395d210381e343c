/-
  The reference's lexer: a byte and a text as they are written.
-/
import Derived.Test.YtfljcfdfgojdoaaGreatDoorFa28
import Derived.Test.YtfljcfdfgojdoaaGreatDoorFa10
namespace Go.Proofs.YtfljcfdfgojdoaaGreatDoor.Sh.Rf
open Go.RowKit Go.Lib Go.Proofs.YtfljcfdfgojdoaaGreatDoor Go.Proofs.YtfljcfdfgojdoaaGreatDoor.Sh

abbrev sixS : ByteArray := ⟨#[92, 34, 91, 93, 94, 45]⟩
def sixT (n : Nat) : Bool := hasB sixS (UInt8.ofNat n) == decide (0 ≤ indexByte special (UInt8.ofNat n))
theorem six_all : (List.range 256).all sixT = true := by kernel_rfl
theorem of_all {p : Nat → Bool} (h : (List.range 256).all p = true) (c : B) : p c.toNat = true := List.all_eq_true.1 h _ (List.mem_range.2 c.toNat_lt)
theorem of_nat (c : B) : UInt8.ofNat c.toNat = c := by simp
theorem six_has (c : B) : hasB sixS c = decide (0 ≤ indexByte special c) := by
  have h := of_all six_all c
  unfold sixT at h
  rw [of_nat] at h
  exact beq_iff_eq.1 h
theorem plain_has (c : B) : plainB c = (decide (32 ≤ (c.toNat : Int)) && decide ((c.toNat : Int) ≤ 126) && !hasB sixS c) := by
  rw [six_has]
  unfold plainB
  congr 1
  by_cases h : indexByte special c < 0
  · rw [decide_eq_true h, decide_eq_false (by omega)]; rfl
  · rw [decide_eq_false h, decide_eq_true (by omega)]; rfl
set_option maxHeartbeats 400000 in
theorem plainE_any (c : B) (w : World) : Calls Tryz.prog 171 #[.int .u8 c.toNat] w fun e w' => e = .returned (.bool (plainB c)) ∧ w = w' := by
  have HP := hid (plain_has c)
  by_cases h1 : 32 ≤ (c.toNat : Int)
  · by_cases h2 : (c.toNat : Int) ≤ 126
    · have HV := hid (show plainB c = !hasB sixS c by rw [HP.out, decide_eq_true h1, decide_eq_true h2]; rfl)
      go_enter Tryz.func171, Tryz.ntmps171
      go_wp2_with (go_at_call 165; refine (inR_any c ⟨#[92, 34, 91, 93, 94, 45]⟩ _ (by decide)).mono ?_; rintro e w' ⟨rfl, rfl⟩)
      go_ret
      exact ⟨bool_eq HV.out.symm, rfl⟩
    · have HV := hid (show plainB c = false by rw [HP.out, decide_eq_false h2]; simp)
      go_enter Tryz.func171, Tryz.ntmps171
      go_wp2
      go_ret
      exact ⟨bool_eq HV.out.symm, rfl⟩
  · have HV := hid (show plainB c = false by rw [HP.out, decide_eq_false h1]; simp)
    go_enter Tryz.func171, Tryz.ntmps171
    go_wp2
    go_ret
    exact ⟨bool_eq HV.out.symm, rfl⟩
theorem hex_cut' : ∀ n : Fin 16, (sixB.extract n.1 (n.1 + 1)) = ⟨#[hexD n.1]⟩ := by decide
theorem hex_cut {n : Nat} (h : n < 16) : sixB.extract n (n + 1) = ⟨#[hexD n]⟩ := hex_cut' ⟨n, h⟩
theorem lit_str (w : World) (l : List B) (c : Nat) : (convert 73 9 (.slice (some ⟨w.heap.size, 0, none⟩) l.length c)).run Tryz.prog (w.alloc (.cells (l.map bV).toArray 5)) = .ok (.string ⟨l.toArray⟩) (w.alloc (.cells (l.map bV).toArray 5)) := by
  refine run_convert_bytes_back _ _ _ _ _ _ l Tryz.underlying73 Tryz.underlying5 Tryz.underlying9 fun j hj => ?_
  exact cells_at (heap_alloc_new _ _) j _ (by rw [List.getElem?_map, List.getElem?_eq_getElem hj]; rfl)
theorem hex_str (x y : B) : (⟨#[92, 120]⟩ ++ ⟨#[x]⟩ ++ ⟨#[y]⟩ : ByteArray) = ⟨[92, 120, x, y].toArray⟩ := by
  rw [show (⟨#[92, 120]⟩ ++ ⟨#[x]⟩ : ByteArray) = ⟨[92, 120, x].toArray⟩ from cat_str [92, 120] [x]]
  exact cat_str [92, 120, x] [y]
/-- how a byte is written, by its kind -/
def escT (n : Nat) : Bool :=
  let c := UInt8.ofNat n
  if plainB c = true then escB c == [c] else if hasB sixS c = true then escB c == [92, c] else if n = 10 then escB c == [92, 110] else if n = 9 then escB c == [92, 116]
  else if n = 13 then escB c == [92, 114] else escB c == [92, 120, hexD (n / 16), hexD (n % 16)]
theorem esc_all : (List.range 256).all escT = true := by kernel_rfl
set_option maxRecDepth 100000 in
set_option maxHeartbeats 1000000 in
theorem byteR_any (c : B) (w : World) : Calls Tryz.prog 140 #[.int .u8 c.toNat] w (StrPost (escB c) w) := by
  have h := of_all esc_all c
  unfold escT at h
  simp only [of_nat] at h
  have hlt := c.toNat_lt
  have HB := hid (fun cs => (Below.refl w.heap.size w).alloc (Nat.le_refl _) (.cells cs 5))
  by_cases hp : plainB c = true
  · rw [if_pos hp, beq_iff_eq] at h
    have HE := hid h
    have hs : (convert 73 9 (.slice (some ⟨w.heap.size, 0, none⟩) 1 1)).run Tryz.prog (w.alloc (.cells #[.int .u8 c.toNat] 5)) = .ok (.string ⟨#[c]⟩) (w.alloc (.cells #[.int .u8 c.toNat] 5)) := lit_str w [c] 1
    have hpl := plainE_any c w
    rw [hp] at hpl
    clear h hp
    go_enter Tryz.func140, Tryz.ntmps140
    go_wp2_with (go_at_call 171; refine hpl.mono ?_; clear hpl; rintro e w' ⟨rfl, rfl⟩)
    go_ret
    rw [HE.out]
    exact ⟨rfl, HB.out _⟩
  · rw [if_neg hp] at h
    have hp' : plainB c = false := by simpa using hp
    have hpl := plainE_any c w
    rw [hp'] at hpl
    clear hp hp'
    have hin := inR_any c sixS w (by decide)
    by_cases h6 : hasB sixS c = true
    · rw [if_pos h6, beq_iff_eq] at h
      have HE := hid h
      have hs : (convert 73 9 (.slice (some ⟨w.heap.size, 0, none⟩) 2 2)).run Tryz.prog (w.alloc (.cells #[.int .u8 92, .int .u8 c.toNat] 5)) = .ok (.string ⟨#[92, c]⟩) (w.alloc (.cells #[.int .u8 92, .int .u8 c.toNat] 5)) := lit_str w [92, c] 2
      rw [h6] at hin
      clear h h6
      go_enter Tryz.func140, Tryz.ntmps140
      go_wp2_with (first | (go_at_call 171; refine hpl.mono ?_; clear hpl; rintro e w' ⟨rfl, rfl⟩) | (go_at_call 165; refine hin.mono ?_; clear hin; rintro e w' ⟨rfl, rfl⟩))
      go_ret
      rw [HE.out]
      exact ⟨rfl, HB.out _⟩
    · rw [if_neg h6] at h
      have h6' : hasB sixS c = false := by simpa using h6
      rw [h6'] at hin
      clear h6 h6'
      by_cases h1 : c.toNat = 10
      · rw [if_pos h1, beq_iff_eq] at h
        have HE := hid h
        have h1' : (c.toNat : Int) = 10 := by omega
        rw [h1'] at hpl hin ⊢
        clear h h1 h1' hlt
        go_enter Tryz.func140, Tryz.ntmps140
        go_wp2_with (first | (go_at_call 171; refine hpl.mono ?_; clear hpl; rintro e w' ⟨rfl, rfl⟩) | (go_at_call 165; refine hin.mono ?_; clear hin; rintro e w' ⟨rfl, rfl⟩))
        go_ret
        rw [HE.out]
        exact ⟨rfl, Below.refl _ _⟩
      · rw [if_neg h1] at h
        by_cases h2 : c.toNat = 9
        · rw [if_pos h2, beq_iff_eq] at h
          have HE := hid h
          have h1' : (c.toNat : Int) = 9 := by omega
          rw [h1'] at hpl hin ⊢
          clear h h1 h1' h2 hlt
          go_enter Tryz.func140, Tryz.ntmps140
          go_wp2_with (first | (go_at_call 171; refine hpl.mono ?_; clear hpl; rintro e w' ⟨rfl, rfl⟩) | (go_at_call 165; refine hin.mono ?_; clear hin; rintro e w' ⟨rfl, rfl⟩))
          go_ret
          rw [HE.out]
          exact ⟨rfl, Below.refl _ _⟩
        · rw [if_neg h2] at h
          by_cases h3 : c.toNat = 13
          · rw [if_pos h3, beq_iff_eq] at h
            have HE := hid h
            have h1' : (c.toNat : Int) = 13 := by omega
            rw [h1'] at hpl hin ⊢
            clear h h1 h1' h2 h3 hlt
            go_enter Tryz.func140, Tryz.ntmps140
            go_wp2_with (first | (go_at_call 171; refine hpl.mono ?_; clear hpl; rintro e w' ⟨rfl, rfl⟩) | (go_at_call 165; refine hin.mono ?_; clear hin; rintro e w' ⟨rfl, rfl⟩))
            go_ret
            rw [HE.out]
            exact ⟨rfl, Below.refl _ _⟩
          · rw [if_neg h3, beq_iff_eq] at h
            have HE := hid h
            have n1 : ((c.toNat : Int) == 10) = false := by simpa using (by omega : ¬ (c.toNat : Int) = 10)
            have n2 : ((c.toNat : Int) == 9) = false := by simpa using (by omega : ¬ (c.toNat : Int) = 9)
            have n3 : ((c.toNat : Int) == 13) = false := by simpa using (by omega : ¬ (c.toNat : Int) = 13)
            clear h h1 h2 h3
            go_enter Tryz.func140, Tryz.ntmps140
            go_wp2_with (first | (go_at_call 171; refine hpl.mono ?_; clear hpl; rintro e w' ⟨rfl, rfl⟩) | (go_at_call 165; refine hin.mono ?_; clear hin; rintro e w' ⟨rfl, rfl⟩))
            obtain ⟨a, ha⟩ : ∃ a : Nat, a = c.toNat / 16 := ⟨_, rfl⟩
            obtain ⟨b, hb⟩ : ∃ b : Nat, b = c.toNat % 16 := ⟨_, rfl⟩
            have ha16 : a < 16 := by omega
            have hb16 : b < 16 := by omega
            have ea : (c.toNat : Int) / 16 = (a : Int) := by omega
            have eb : (c.toNat : Int) % 16 = (b : Int) := by omega
            have ta : (c.toNat : Int).tdiv 16 = (a : Int) := by rw [Int.tdiv_eq_ediv_of_nonneg (by omega), ea]
            have tb : (c.toNat : Int).tmod 16 = (b : Int) := by rw [Int.tmod_eq_emod_of_nonneg (by omega), eb]
            have x1 : sixB.extract a (a + 1) = ⟨#[hexD a]⟩ := hex_cut ha16
            have x2 : sixB.extract b (b + 1) = ⟨#[hexD b]⟩ := hex_cut hb16
            have wa : IntKind.u8.wrap (a : Int) = a := by show (a : Int) % (2 ^ 8 : Int) = a; omega
            have wb : IntKind.u8.wrap (b : Int) = b := by show (b : Int) % (2 ^ 8 : Int) = b; omega
            have wa1 : IntKind.u8.wrap ((a : Int) + 1) = a + 1 := by show ((a : Int) + 1) % (2 ^ 8 : Int) = a + 1; omega
            have wb1 : IntKind.u8.wrap ((b : Int) + 1) = b + 1 := by show ((b : Int) + 1) % (2 ^ 8 : Int) = b + 1; omega
            have la : (a : Int) + 1 ≤ 16 := by omega
            have lb : (b : Int) + 1 ≤ 16 := by omega
            have na : ((a : Int) + 1).toNat = a + 1 := by omega
            have nb : ((b : Int) + 1).toNat = b + 1 := by omega
            rw [← ha, ← hb] at HE
            clear ha hb
            go_region
            all_goals
              go_wp2
              go_ret
              rw [HE.out, hex_str]
              exact ⟨rfl, (Below.refl _ _).drew⟩
theorem add_str (a b : List B) (h : a.length + b.length ≤ 70368744177664) (W : World) : (Op.stringOp .add ⟨a.toArray⟩ ⟨b.toArray⟩).run Tryz.prog W = .ok (.string ⟨(a ++ b).toArray⟩) W := by
  have h1 : (⟨a.toArray⟩ : ByteArray).size = a.length := str_size _
  have h2 : (⟨b.toArray⟩ : ByteArray).size = b.length := str_size _
  rw [run_string_add_sum W _ _ (by omega), cat_str]
theorem add_cons (a b c : List B) (hc : a ++ b = c) (h : a.length + b.length ≤ 70368744177664) (W : World) : (Op.stringOp .add ⟨a.toArray⟩ ⟨b.toArray⟩).run Tryz.prog W = .ok (.string ⟨c.toArray⟩) W := by
  subst hc; exact add_str a b h W
theorem flat_esc_len (l : List B) : (l.flatMap escB).length ≤ 4 * l.length := by
  induction l with
  | nil => simp
  | cons c l ih =>
    rw [List.flatMap_cons, List.length_append, List.length_cons]
    have := esc_len c
    omega
set_option maxRecDepth 100000 in
set_option maxHeartbeats 1000000 in
theorem textE_any (s : ByteArray) (hs : s.size ≤ 1099511627776) (w : World) :
    Calls Tryz.prog 94 #[.string s] w (StrPost (textW s.data.toList) w) := by
  have HS := hid hs
  have hsz : (s.size : Int) ≤ 9223372036854775807 := by omega
  have HL := hid (show s.data.toList.length = s.size from rfl)
  clear hs
  go_enter Tryz.func94, Tryz.ntmps94
  go_wp2
  go_loopw [3, 4] (fun o i wr => ∃ k : Nat, k ≤ s.size ∧ o = .string ⟨((s.data.toList.take k).flatMap escB).toArray⟩ ∧ i = .int .i64 k ∧ Below w.heap.size w wr) (fun _ i _ => s.size - (RowKit.intOf i).toNat)
  case atStart => exact ⟨0, Nat.zero_le _, rfl, rfl, Below.refl _ _⟩
  case round =>
    obtain ⟨k, hk, rfl, rfl, hb⟩ := hrel
    have HB := hid hb
    clear hb
    by_cases hlt : k < s.size
    · have hki : (k : Int) < (s.size : Int) := by omega
      have hkl : k < s.data.toList.length := hlt
      have hby := byteR_any s[k] wr
      have hl1 := flat_esc_len (s.data.toList.take k)
      have hl2 : (s.data.toList.take k).length ≤ s.size := by rw [List.length_take]; have := HL.out; omega
      have hl3 := esc_len s[k]
      have hadd := add_str ((s.data.toList.take k).flatMap escB) (escB s[k]) (by have := HS.out; omega)
      have HT := hid (show (s.data.toList.take k).flatMap escB ++ escB s[k] = (s.data.toList.take (k + 1)).flatMap escB by rw [List.take_succ_eq_append_getElem hkl, List.flatMap_append, List.flatMap_cons, List.flatMap_nil, List.append_nil]; rfl)
      clear hl1 hl2 hl3
      go_wp2_with (go_at_call 140; refine hby.mono ?_; clear hby; rintro e w2 ⟨rfl, hb2⟩)
      go_roundw
      case rel => exact ⟨k + 1, by omega, by rw [HT.out], by go_num, HB.out.trans (hb2.mono HB.out.size)⟩
      case measure => simp [RowKit.intOf]; omega
    · obtain rfl : k = s.size := by omega
      have ht : s.data.toList.take s.size = s.data.toList := List.take_length
      rw [ht]
      have hl1 := flat_esc_len s.data.toList
      rw [HL.out] at hl1
      have hadd1 := add_cons [34] (s.data.toList.flatMap escB) (34 :: s.data.toList.flatMap escB) rfl (by have := HS.out; simp only [List.length_cons, List.length_nil]; omega)
      have hadd2 := add_cons (34 :: s.data.toList.flatMap escB) [34] (34 :: (s.data.toList.flatMap escB ++ [34])) rfl (by have := HS.out; simp only [List.length_cons, List.length_nil]; omega)
      have HT := hid (show textW s.data.toList = 34 :: (s.data.toList.flatMap escB ++ [34]) from rfl)
      clear hl1 ht hlt
      generalize s.data.toList.flatMap escB = X at *
      go_wp2
      go_ret
      rw [HT.out]
      exact ⟨rfl, HB.out⟩
end Go.Proofs.YtfljcfdfgojdoaaGreatDoor.Sh.Rf
