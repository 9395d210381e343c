/-
  The reference's lexer: its small functions, one byte as it is written, texts, power, Make.
-/
import Derived.Test.YtfljcfdfgojdoaaGreatDoorFa26
import Derived.Deep.QuietTactic
import Derived.BigQuiet
import Derived.WalkSmall
namespace Go.Proofs.YtfljcfdfgojdoaaGreatDoor.Sh.Rf
open Go.RowKit Go.Lib Go.Proofs.YtfljcfdfgojdoaaGreatDoor Go.Proofs.YtfljcfdfgojdoaaGreatDoor.Sh

theorem quiet_same {P : Program} {f : FuncId} {args : Array Value} {w : World} {n : Nat} {v : Value}
    (h : Calls P f args (w.drewN n) fun e w' => e = .returned v ∧ w.drewN n = w') : Calls P f args (w.drewN n) fun e w'' => e = .returned v ∧ ∃ m, w'' = w.drewN m :=
  h.mono fun _ _ ⟨he, hm⟩ => ⟨he, n, hm.symm⟩
theorem below_drewN {B : Nat} {a w : World} (h : Below B a w) (n : Nat) : Below B a (w.drewN n) := h.trans ⟨rfl, rfl, rfl, Nat.le_refl _, fun _ _ => rfl⟩
/-- is a byte one of some? -/
def hasB (s : ByteArray) (c : B) : Bool := s.data.toList.contains c
theorem in_step (s : ByteArray) (c : B) (k : Nat) (h : k < s.size) : (s.data.toList.take (k + 1)).contains c = ((s.data.toList.take k).contains c || c == s[k]) := by
  rw [List.take_succ_eq_append_getElem (by simpa using h), List.contains_append]
  simp
  rfl
theorem in_yes (s : ByteArray) (c : B) (k : Nat) (h : k < s.size) (he : s[k] = c) : s.data.toList.contains c = true := by
  rw [List.contains_iff_mem, ← he]
  have : s[k] = s.data.toList[k]'(by simpa using h) := by simp; rfl
  rw [this]
  exact List.getElem_mem _
theorem byte_beq {a c : B} (h : a = c) : ((a.toNat : Int) == (c.toNat : Int)) = true := by rw [h]; simp
theorem byte_bne {a c : B} (h : ¬ a = c) : ((a.toNat : Int) == (c.toNat : Int)) = false := beq_eq_false_iff_ne.2 fun e => h (UInt8.toNat_inj.1 (by omega))

set_option maxRecDepth 100000 in
set_option maxHeartbeats 400000 in
theorem inR_any (c : B) (s : ByteArray) (w : World) (hs : s.size ≤ 140737488351232) :
    Calls Tryz.prog 165 #[.int .u8 c.toNat, .string s] w fun e w' => e = .returned (.bool (hasB s c)) ∧ w = w' := by
  go_enter Tryz.func165, Tryz.ntmps165
  go_wp2
  go_loop [5] (fun i => ∃ k : Nat, k ≤ s.size ∧ i = .int .i64 k ∧ Hid ((s.data.toList.take k).contains c = false)) (fun i => s.size - (RowKit.intOf i).toNat)
  case atStart => exact ⟨0, Nat.zero_le _, rfl, by show _ = _; simp⟩
  case round =>
    obtain ⟨k, hk, rfl, H⟩ := hrel
    by_cases hlt : k < s.size
    · have HT := hid (in_step s c k hlt)
      by_cases he : s[k] = c
      · have HE := hid (in_yes s c k hlt he)
        have heb := byte_beq he
        clear he
        go_wp2
        go_ret
        exact ⟨bool_eq HE.out.symm, rfl⟩
      · have HE := hid he
        have heb := byte_bne he
        clear he
        go_wp2
        go_round
        case rel => exact ⟨k + 1, by omega, by go_num, by show _ = _; rw [HT.out, H.out]; simpa using fun e => HE.out e.symm⟩
        case measure => simp [RowKit.intOf]; omega
    · obtain rfl : k = s.size := by omega
      go_wp2
      go_ret
      exact ⟨bool_eq (by have := H.out; rw [List.take_of_length_le (by simp)] at this; exact this.symm), rfl⟩
theorem digitR_any (n : Int) (w : World) :
    Calls Tryz.prog 163 #[.int .u8 n] w fun e w' => e = .returned (.bool (digitB n)) ∧ w = w' := by
  go_enter Tryz.func163, Tryz.ntmps163
  go_wp2
  all_goals go_ret
  all_goals refine ⟨bool_eq ?_, rfl⟩
  all_goals rw [Bool.eq_iff_iff]; simp [digitB]; omega
set_option maxHeartbeats 400000 in
theorem letterR_any (n : Int) (w : World) :
    Calls Tryz.prog 162 #[.int .u8 n] w fun e w' => e = .returned (.bool (letterB n)) ∧ w = w' := by
  go_enter Tryz.func162, Tryz.ntmps162
  go_wp2
  all_goals go_ret
  all_goals refine ⟨bool_eq ?_, rfl⟩
  all_goals rw [Bool.eq_iff_iff]; simp [letterB]; omega
/-- a digit in sixteens; below 0: it is none -/
def hexV (c : Int) : Int := if digitB c = true then c - 48 else if 97 ≤ c ∧ c ≤ 102 then c - 87 else -1
theorem hexV_le (c : Int) : hexV c ≤ 15 := by
  unfold hexV digitB
  split
  · rename_i h; simp at h; omega
  · split <;> omega
set_option maxHeartbeats 400000 in
theorem hexR_any (c : B) (w : World) :
    Calls Tryz.prog 218 #[.int .u8 c.toNat] w fun e w' => e = .returned (.int .i64 (hexV c.toNat)) ∧ w = w' := by
  have hc := c.toNat_lt
  have hd := hid (show ∀ x : Int, digitB x = true → 48 ≤ x ∧ x ≤ 57 from fun x h => by simpa [digitB] using h)
  by_cases h1 : digitB c.toNat = true
  · have h2 := (hd.out _ h1).1
    have h3 := (hd.out _ h1).2
    go_enter Tryz.func218, Tryz.ntmps218
    go_wp2_with (go_at_call 163; refine (digitR_any _ _).mono ?_; rintro e w' ⟨rfl, rfl⟩)
    go_ret
    exact ⟨err_eq (by unfold hexV; rw [if_pos h1]), rfl⟩
  · have h1' : digitB c.toNat = false := by simpa using h1
    by_cases h2 : 97 ≤ (c.toNat : Int)
    · by_cases h3 : (c.toNat : Int) ≤ 102
      · go_enter Tryz.func218, Tryz.ntmps218
        go_wp2_with (go_at_call 163; refine (digitR_any _ _).mono ?_; rintro e w' ⟨rfl, rfl⟩)
        go_ret
        exact ⟨err_eq (by unfold hexV; rw [if_neg h1, if_pos ⟨h2, h3⟩]; omega), rfl⟩
      · go_enter Tryz.func218, Tryz.ntmps218
        go_wp2_with (go_at_call 163; refine (digitR_any _ _).mono ?_; rintro e w' ⟨rfl, rfl⟩)
        go_ret
        exact ⟨err_eq (by unfold hexV; rw [if_neg h1, if_neg (by omega)]), rfl⟩
    · go_enter Tryz.func218, Tryz.ntmps218
      go_wp2_with (go_at_call 163; refine (digitR_any _ _).mono ?_; rintro e w' ⟨rfl, rfl⟩)
      go_ret
      exact ⟨err_eq (by unfold hexV; rw [if_neg h1, if_neg (by omega)]), rfl⟩
/-- a byte that stands for itself; this bench wants no more than that it is told -/
def SomeB (w : World) (e : Ending) (w' : World) : Prop := ∃ b : Bool, e = .returned (.bool b) ∧ w = w'
set_option maxHeartbeats 400000 in
theorem plainR_any (c : B) (w : World) : Calls Tryz.prog 171 #[.int .u8 c.toNat] w (SomeB w) := by
  go_enter Tryz.func171, Tryz.ntmps171
  go_wp2_with (go_at_call 165; refine (inR_any c ⟨#[92, 34, 91, 93, 94, 45]⟩ _ (by decide)).mono ?_; rintro e w' ⟨rfl, rfl⟩)
  all_goals go_ret
  all_goals exact ⟨_, rfl, rfl⟩
set_option maxHeartbeats 400000 in
theorem keyR_any (l : List B) (w : World) :
    Calls Tryz.prog 134 #[.string ⟨l.toArray⟩] w fun e w' => e = .returned (.bool (reservedB l)) ∧ w = w' := by
  go_enter Tryz.func134, Tryz.ntmps134
  go_wp2
  all_goals go_ret
  all_goals refine ⟨bool_eq ?_, rfl⟩
  all_goals simp_all [reservedB]
/-- one byte as it is written: where it ends -/
def OnePost (s : ByteArray) (k : Nat) (w : World) (e : Ending) (w' : World) : Prop :=
  (∃ (b : B) (t er : Int), e = .returned (.tuple #[.int .u8 (b.toNat : Int), .int .i64 t, .int .i64 er]) ∧ (er = 0 → (k : Int) < t ∧ t ≤ s.size)) ∧ Below w.heap.size w w'
theorem onePost_mk {s : ByteArray} {k : Nat} {w w' : World} {b t er : Int} (h0 : 0 ≤ b) (h1 : b < 256) (h : er = 0 → (k : Int) < t ∧ t ≤ s.size) (hb : Below w.heap.size w w') : OnePost s k w (.returned (.tuple #[.int .u8 b, .int .i64 t, .int .i64 er])) w' :=
  ⟨⟨UInt8.ofNat b.toNat, t, er, by rw [byte_of, show ((b.toNat % 256 : Nat) : Int) = b by omega], h⟩, hb⟩

set_option maxRecDepth 100000 in
set_option maxHeartbeats 2000000 in
theorem oneR_any (s : ByteArray) (k : Nat) (w : World) (hk : k ≤ s.size) (hs : s.size ≤ 140737488351232) :
    Calls Tryz.prog 194 #[.string s, .int .i64 k] w (OnePost s k w) := by
  by_cases hlt : k < s.size
  · have hc0 := s[k].toNat_lt
    cases h92 : ((s[k].toNat : Int) == 92)
    · have h92' : ((s[k].toNat : Int) != 92) = true := by simp [bne, h92]
      go_enter Tryz.func194, Tryz.ntmps194
      go_wp2_with (go_at_call 171; refine (plainR_any s[k] _).mono ?_; rintro e w' ⟨b, rfl, rfl⟩)
      all_goals
        go_ret3
        exact onePost_mk (by omega) (by omega) (fun h => by first | omega | simp at h) (Below.refl _ _)
    · have h92' : ((s[k].toNat : Int) != 92) = false := by simp [bne, h92]
      by_cases hlt1 : k + 1 < s.size
      · have hc1 := (s[k + 1]).toNat_lt
        cases hin : hasB ⟨#[92, 34, 91, 93, 94, 45]⟩ s[k + 1]
        · cases h120 : ((s[k + 1].toNat : Int) == 120)
          · have HIN := hid hin
            clear hin
            go_enter Tryz.func194, Tryz.ntmps194
            go_wp2_with (first | (go_at_call 171; refine (plainR_any s[k] _).mono ?_; rintro e w' ⟨b, rfl, rfl⟩) | (go_at_call 165; refine (inR_any s[k + 1] ⟨#[92, 34, 91, 93, 94, 45]⟩ _ (by decide)).mono ?_; rintro e w' ⟨rfl, rfl⟩; rw [HIN.out]))
            all_goals
              go_ret3
              exact onePost_mk (by omega) (by omega) (fun h => by first | omega | simp at h) (Below.refl _ _)
          · have hx := hid (show s[k + 1] = 120 from UInt8.toNat_inj.1 (by have := beq_iff_eq.1 h120; have : (120 : B).toNat = 120 := rfl; omega))
            clear hin h120
            have h1 : ((s[k + 1].toNat : Int) == 110) = false := by rw [hx.out]; rfl
            have h2 : ((s[k + 1].toNat : Int) == 116) = false := by rw [hx.out]; rfl
            have h3 : ((s[k + 1].toNat : Int) == 114) = false := by rw [hx.out]; rfl
            have h4 : ((s[k + 1].toNat : Int) == 120) = true := by rw [hx.out]; rfl
            have HIN := hid (show hasB ⟨#[92, 34, 91, 93, 94, 45]⟩ s[k + 1] = false by rw [hx.out]; rfl)
            go_enter Tryz.func194, Tryz.ntmps194
            go_wp2_with (first | (go_at_call 171; refine (plainR_any s[k] _).mono ?_; rintro e w' ⟨b, rfl, rfl⟩) | (go_at_call 165; refine (inR_any s[k + 1] ⟨#[92, 34, 91, 93, 94, 45]⟩ _ (by decide)).mono ?_; rintro e w' ⟨rfl, rfl⟩; rw [HIN.out]))
            · go_ret3
              exact onePost_mk (by omega) (by omega) (fun h => by first | omega | simp at h) (Below.refl _ _)
            go_loop [8] (fun i => ∃ m : Nat, 2 ≤ m ∧ m ≤ 4 ∧ i = .int .i64 m ∧ Hid (∀ j, 2 ≤ j → j < m → ∃ h : k + j < s.size, 0 ≤ hexV s[k + j].toNat)) (fun i => 4 - (RowKit.intOf i).toNat)
            case atStart => exact ⟨2, by omega, by omega, rfl, fun j h1 h2 => by omega⟩
            case round =>
              obtain ⟨m, hm2, hm4, rfl, H⟩ := hrel
              by_cases hm : m < 4
              · by_cases hx1 : k + m < s.size
                · have hxx := hexV_le s[k + m].toNat
                  by_cases hn : hexV s[k + m].toNat < 0
                  · go_wp2_with (go_at_call 218; refine (hexR_any _ _).mono ?_; rintro e w' ⟨rfl, rfl⟩)
                    go_ret3
                    exact onePost_mk (by omega) (by omega) (fun h => by first | omega | simp at h) (Below.refl _ _)
                  · go_wp2_with (go_at_call 218; refine (hexR_any _ _).mono ?_; rintro e w' ⟨rfl, rfl⟩)
                    go_round
                    case rel => exact ⟨m + 1, by omega, by omega, by go_num, fun j h1 h2 => by
                      by_cases h : j < m
                      · exact H.out j h1 h
                      · obtain rfl : j = m := by omega
                        exact ⟨hx1, by omega⟩⟩
                    case measure => simp [RowKit.intOf]; omega
                · go_wp2
                  go_ret3
                  exact onePost_mk (by omega) (by omega) (fun h => by first | omega | simp at h) (Below.refl _ _)
              · obtain rfl : m = 4 := by omega
                obtain ⟨hx2, hv2⟩ := H.out 2 (by omega) (by omega)
                obtain ⟨hx3, hv3⟩ := H.out 3 (by omega) (by omega)
                have b2 := hexV_le s[k + 2].toNat
                have b3 := hexV_le s[k + 3].toNat
                have l1 : IntKind.i64.wrap (16 * hexV s[k + 2].toNat) = 16 * hexV s[k + 2].toNat := by rw [IntKind.wrap_i64]; omega
                have l2 : IntKind.i64.wrap (16 * hexV s[k + 2].toNat + hexV s[k + 3].toNat) = 16 * hexV s[k + 2].toNat + hexV s[k + 3].toNat := by rw [IntKind.wrap_i64]; omega
                have l3 : 0 ≤ 16 * hexV s[k + 2].toNat + hexV s[k + 3].toNat := by omega
                have l4 : 16 * hexV s[k + 2].toNat + hexV s[k + 3].toNat < 256 := by omega
                have i2 : (k : Int) + 2 < s.size := by omega
                have i3 : (k : Int) + 3 < s.size := by omega
                have w2 : IntKind.i64.wrap ((k : Int) + 2) = (k : Int) + 2 := by rw [IntKind.wrap_i64]; omega
                have w3 : IntKind.i64.wrap ((k : Int) + 3) = (k : Int) + 3 := by rw [IntKind.wrap_i64]; omega
                have w4 : IntKind.i64.wrap ((k : Int) + 4) = (k : Int) + 4 := by rw [IntKind.wrap_i64]; omega
                have z2 : (0 : Int) ≤ (k : Int) + 2 := by omega
                have z3 : (0 : Int) ≤ (k : Int) + 3 := by omega
                have t2 : ((k : Int) + 2).toNat = k + 2 := by omega
                have t3 : ((k : Int) + 3).toNat = k + 3 := by omega
                go_wp2
                go_quiet ((go_at_call 218; exact quiet_same (hexR_any _ _)))
                go_wp2
                go_ret3
                exact onePost_mk (by omega) (by omega) (fun h => by omega) (below_drewN (Below.refl _ _) _)
        · have HIN := hid hin
          clear hin
          go_enter Tryz.func194, Tryz.ntmps194
          go_wp2_with (first | (go_at_call 171; refine (plainR_any s[k] _).mono ?_; rintro e w' ⟨b, rfl, rfl⟩) | (go_at_call 165; refine (inR_any s[k + 1] ⟨#[92, 34, 91, 93, 94, 45]⟩ _ (by decide)).mono ?_; rintro e w' ⟨rfl, rfl⟩; rw [HIN.out]))
          all_goals
            go_ret3
            exact onePost_mk (by omega) (by omega) (fun h => by first | omega | simp at h) (Below.refl _ _)
      · go_enter Tryz.func194, Tryz.ntmps194
        go_wp2_with (go_at_call 171; refine (plainR_any s[k] _).mono ?_; rintro e w' ⟨b, rfl, rfl⟩)
        all_goals
          go_ret3
          exact onePost_mk (by omega) (by omega) (fun h => by first | omega | simp at h) (Below.refl _ _)
  · go_enter Tryz.func194, Tryz.ntmps194
    go_wp2
    go_ret3
    exact onePost_mk (by omega) (by omega) (fun h => by simp at h) (Below.refl _ _)
theorem one_atR (s : ByteArray) (a : Int) (k : Nat) (w : World) (ha : a = k) (hk : k ≤ s.size) (hs : s.size ≤ 140737488351232) :
    Calls Tryz.prog 194 #[.string s, .int .i64 a] w (OnePost s k w) := by subst ha; exact oneR_any s k w hk hs
end Go.Proofs.YtfljcfdfgojdoaaGreatDoor.Sh.Rf

namespace Go.Proofs.YtfljcfdfgojdoaaGreatDoor.Sh.Rf
open Go.RowKit Go.Lib Go.Proofs.YtfljcfdfgojdoaaGreatDoor Go.Proofs.YtfljcfdfgojdoaaGreatDoor.Sh

/-- a token, the place behind it, an error, of which P holds -/
def TkPost (P : Tok → Int → Int → Prop) (w : World) (e : Ending) (w' : World) : Prop :=
  Below w.heap.size w w' ∧ ∃ (t : Tok) (tp er : Int), e = .returned (.tuple #[.agg t.cells, .int .i64 tp, .int .i64 er]) ∧ P t tp er
abbrev TokAt (g : Nat) (t : Tok) (w : World) : Prop := w.heap[g]? = some (.cells t.cells 139 (0, 0))
theorem run_string_here {w : World} {base : Nat} {v : Value} {n : Nat} {bs : List B} (hown : w.ownsRow base 5 1 v n (bs.map bv)) : (convert 73 9 v).run Tryz.prog w = .ok (.string ⟨bs.toArray⟩) w := run_string_own hown
theorem one_onebv (c : B) : ∀ u ∈ [bv c], u.oneCell' = true := by
  intro u hu
  simp at hu
  subst hu
  rfl

set_option maxRecDepth 100000 in
set_option maxHeartbeats 1000000 in
theorem textR_any (s : ByteArray) (k : Nat) (w : World) (hk : k < s.size) (hs : s.size ≤ 140737488351232) :
    Calls Tryz.prog 160 #[.string s, .int .i64 k] w (TkPost (fun t _ er => er ≠ 0 ∨ t.kind = 2) w) := by
  have hs2 : s.size ≤ 9223372036854775807 := by omega
  obtain ⟨i0, hi, hz0, hz1, hz2⟩ := info_parts info5
  have HI := hid hi
  have HZ := hid (And.intro hz0 (And.intro hz1 hz2))
  clear hi hz0 hz1 hz2
  go_enter Tryz.func160, Tryz.ntmps160
  go_wp2
  go_loopw [8, 9] (fun i v wr => ∃ (j : Nat) (acc : List B), k < j ∧ j ≤ s.size ∧ i = .int .i64 j ∧ wr.ownsRow (w.heap.size + 2) 5 1 v acc.length (acc.map bv) ∧ acc.length ≤ j ∧ TokAt w.heap.size Tok.zero wr ∧ TokAt (w.heap.size + 1) ⟨2, [], Se.none, 0, k⟩ wr ∧ Below w.heap.size w wr ∧ w.heap.size + 2 ≤ wr.heap.size) (fun i _ _ => s.size - (RowKit.intOf i).toNat)
  case atStart => exact ⟨k + 1, [], by omega, by omega, by go_num, World.ownsRow_nil _ _ _ _, by simp, heap_alloc2_old _ _ _, heap_alloc2_new _ _ _, ((Below.refl _ _).alloc (Nat.le_refl _) _).alloc (by simp) _, by simp⟩
  case round =>
    obtain ⟨j, acc, hkj, hj, rfl, hown, hal, hb0, hb1, hbel, hsz⟩ := hrel
    have HB0 := hid hb0
    have HB1 := hid hb1
    have HO := hid hown
    obtain ⟨ad, cap, rfl⟩ := own_shape hown
    clear hb0 hb1 hown
    by_cases hq0 : ∃ h : j < s.size, ((s[j].toNat : Int) != 34) = false
    · obtain ⟨hlt, hq⟩ := hq0
      by_cases h256 : 256 < (acc.length : Int)
      · go_wp2_with (refine wpList_store_blk rfl 139 (.tmp 4) (.tmp 47) rfl 8 info63 w.heap.size 139 _ HB0.out rfl Tok.zero.cells rfl rfl rfl rfl ?_)
        exact bodyPost_ret (results_cell3 rfl _ _ w.heap.size 139 _ (0, 0) _ rfl (setRow_heap HB0.out _) Tryz.underlying139 rfl info63) rfl ⟨Below.setRow hbel (Nat.le_refl _) _, Tok.zero, _, _, rfl, .inl (by decide)⟩
      · have hcv1 := run_string_here HO.out
        have c1 : wr.cell? ⟨w.heap.size + 1, 1, none⟩ = some (.string ⟨#[]⟩) := cell_of_row _ _ _ _ _ _ HB1.out
        have f1 : wr.frozen? ⟨w.heap.size + 1, 1, none⟩ = false := frozen_of_row _ _ _ _ _ HB1.out
        have HL1 : Hid (TokAt (w.heap.size + 1) ⟨2, acc, Se.none, 0, k⟩ (wr.setCell ⟨w.heap.size + 1, 1, none⟩ (.string ⟨acc.toArray⟩))) := hid (heap_setCell_same _ _ 1 _ _ _ HB1.out)
        have HL0 : Hid (TokAt w.heap.size Tok.zero (wr.setCell ⟨w.heap.size + 1, 1, none⟩ (.string ⟨acc.toArray⟩))) := hid ((heap_setCell_other _ _ _ _ (by simp)).trans HB0.out)
        go_wp2_with (first | (refine wpList_load_blk rfl 139 (.tmp 7) rfl 8 info63 _ Tryz.underlying139 rfl (w.heap.size + 1) rfl 139 _ HL1.out rfl ?_) | (refine wpList_store_blk rfl 139 (.tmp 4) (.tmp 52) rfl 8 info63 w.heap.size 139 _ HL0.out rfl (⟨2, acc, Se.none, 0, k⟩ : Tok).cells rfl rfl rfl rfl ?_))
        exact bodyPost_ret (results_cell3 rfl _ _ w.heap.size 139 _ (0, 0) _ rfl (setRow_heap HL0.out _) Tryz.underlying139 rfl info63) rfl ⟨Below.setRow (hbel.setCell (by simp) _) (Nat.le_refl _) _, ⟨2, acc, Se.none, 0, k⟩, _, _, rfl, .inr rfl⟩
    · have hq1 : (s.size ≤ j ∨ ∃ h : j < s.size, ((s[j].toNat : Int) != 34) = true) := by
        by_cases hlt : j < s.size
        · right
          refine ⟨hlt, ?_⟩
          cases hb : ((s[j].toNat : Int) != 34)
          · exact absurd ⟨hlt, hb⟩ hq0
          · rfl
        · left; omega
      clear hq0
      rcases hq1 with hlt | ⟨hlt, hq⟩
      · go_wp2_with fail
        refine (one_atR s _ j _ (by omega) (by omega) hs).mono ?_
        rintro e w1 ⟨⟨b, t, er, rfl, hot⟩, hc1⟩
        have HB01 : Hid (TokAt w.heap.size Tok.zero w1) := hid ((hc1.block _ (by omega)).trans HB0.out)
        have HB11 : Hid (TokAt (w.heap.size + 1) ⟨2, [], Se.none, 0, k⟩ w1) := hid ((hc1.block _ (by omega)).trans HB1.out)
        have HO1 := hid (own_later HO.out hc1)
        have hbel1 := hbel.trans (hc1.mono (by omega))
        have hsz1 := hc1.size
        by_cases her : er = 0
        · exfalso
          have := hot her
          omega
        · have her' : (er != 0) = true := by simpa using her
          have HE := hid her
          clear her hot
          go_wp2_with (refine wpList_store_blk rfl 139 (.tmp 4) (.tmp 36) rfl 8 info63 w.heap.size 139 _ HB01.out rfl Tok.zero.cells rfl rfl rfl rfl ?_)
          exact bodyPost_ret (results_cell3 rfl _ _ w.heap.size 139 _ (0, 0) _ rfl (setRow_heap HB01.out _) Tryz.underlying139 rfl info63) rfl ⟨Below.setRow hbel1 (Nat.le_refl _) _, Tok.zero, _, _, rfl, .inl HE.out⟩
      · go_wp2_with fail
        refine (one_atR s _ j _ (by omega) (by omega) hs).mono ?_
        rintro e w1 ⟨⟨b, t, er, rfl, hot⟩, hc1⟩
        have HB01 : Hid (TokAt w.heap.size Tok.zero w1) := hid ((hc1.block _ (by omega)).trans HB0.out)
        have HB11 : Hid (TokAt (w.heap.size + 1) ⟨2, [], Se.none, 0, k⟩ w1) := hid ((hc1.block _ (by omega)).trans HB1.out)
        have HO1 := hid (own_later HO.out hc1)
        have hbel1 := hbel.trans (hc1.mono (by omega))
        have hsz1 := hc1.size
        by_cases her : er = 0
        · subst her
          obtain ⟨h1, h2⟩ := hot rfl
          obtain ⟨n, rfl⟩ := Int.eq_ofNat_of_zero_le (show 0 ≤ t by omega)
          clear hot
          go_wp2_with (at_builtin; refine wpList_append_own _ rfl _ _ 73 rfl (w.heap.size + 2) 5 i0 (.int .u8 0) 1 1 Tryz.underlying73 HI.out HZ.out.1 HZ.out.2.1 HZ.out.2.2 rfl (by decide) _ _ _ rfl (HO1.out.alloc _) ⟨w1.heap.size, 0, none⟩ 1 1 [bv b] rfl rfl (cell_one_new _ _ _) (one_onebv b) (by unfold maxLen; omega) (by omega) (by simp; omega) ?_)
          intro v' w2 hown' hgrow _
          have hb2 : Below (w.heap.size + 2) w1 w2 := below_append (Below.refl _ w1) (by omega) HO1.out hgrow
          have HO2 : Hid (w2.ownsRow (w.heap.size + 2) 5 1 v' (acc ++ [b]).length ((acc ++ [b]).map bv)) := by
            show World.ownsRow _ _ _ _ _ _ _
            rw [List.length_append, List.map_append]
            exact hown'
          clear hown' hgrow
          go_wp2
          go_roundw
          case rel => exact ⟨n, acc ++ [b], by omega, by omega, rfl, HO2.out, by simp; omega, (hb2.block _ (by omega)).trans HB01.out, (hb2.block _ (by omega)).trans HB11.out, hbel1.trans (hb2.mono (by omega)), Nat.le_trans (by omega) hb2.size⟩
          case measure => simp [RowKit.intOf]; omega
        · have her' : (er != 0) = true := by simpa using her
          have HE := hid her
          clear her hot
          go_wp2_with (refine wpList_store_blk rfl 139 (.tmp 4) (.tmp 36) rfl 8 info63 w.heap.size 139 _ HB01.out rfl Tok.zero.cells rfl rfl rfl rfl ?_)
          exact bodyPost_ret (results_cell3 rfl _ _ w.heap.size 139 _ (0, 0) _ rfl (setRow_heap HB01.out _) Tryz.underlying139 rfl info63) rfl ⟨Below.setRow hbel1 (Nat.le_refl _) _, Tok.zero, _, _, rfl, .inl HE.out⟩
end Go.Proofs.YtfljcfdfgojdoaaGreatDoor.Sh.Rf

namespace Go.Proofs.YtfljcfdfgojdoaaGreatDoor.Sh.Rf
open Go.RowKit Go.Lib Go.Proofs.YtfljcfdfgojdoaaGreatDoor Go.Proofs.YtfljcfdfgojdoaaGreatDoor.Sh

/-- two to some number, as it is reckoned -/
def pwR : Nat → Int
  | 0 => 1
  | n + 1 => IntKind.u64.wrap (2 * pwR n)
set_option maxHeartbeats 400000 in
theorem powerR_any (n : Int) (m : Nat) (h : n = m) (hm : m ≤ 64) (w : World) :
    Calls Tryz.prog 195 #[.int .i64 n] w fun e w' => e = .returned (.int .u64 (pwR m)) ∧ w = w' := by
  subst h
  go_enter Tryz.func195, Tryz.ntmps195
  go_wp2
  go_loop [3, 4] (fun p i => ∃ k : Nat, k ≤ m ∧ p = .int .u64 (pwR k) ∧ i = .int .i64 k) (fun _ i => m - (RowKit.intOf i).toNat)
  case atStart => exact ⟨0, Nat.zero_le _, rfl, rfl⟩
  case round =>
    obtain ⟨k, hk, rfl, rfl⟩ := hrel
    by_cases hlt : k < m
    · go_wp2
      go_round
      case rel => exact ⟨k + 1, by omega, rfl, by go_num⟩
      case measure => simp [RowKit.intOf]; omega
    · obtain rfl : k = m := by omega
      go_wp2
      go_ret
      exact ⟨rfl, rfl⟩
theorem tmod_nat (k : Nat) : (k : Int).tmod 64 = ((k % 64 : Nat) : Int) := by rw [Int.tmod_eq_emod_of_nonneg (by omega)]; omega
def SomeSe (w : World) (e : Ending) (w' : World) : Prop := (∃ s : Se, e = .returned s.v) ∧ Below w.heap.size w w'
theorem se_set0 (a b c d x : Int) : (Se.cs ⟨a, b, c, d⟩).setIfInBounds 0 (.int .u64 x) = Se.cs ⟨x, b, c, d⟩ := rfl
theorem se_set1 (a b c d x : Int) : (Se.cs ⟨a, b, c, d⟩).setIfInBounds 1 (.int .u64 x) = Se.cs ⟨a, x, c, d⟩ := rfl
theorem se_set2 (a b c d x : Int) : (Se.cs ⟨a, b, c, d⟩).setIfInBounds 2 (.int .u64 x) = Se.cs ⟨a, b, x, d⟩ := rfl
theorem se_set3 (a b c d x : Int) : (Se.cs ⟨a, b, c, d⟩).setIfInBounds 3 (.int .u64 x) = Se.cs ⟨a, b, c, x⟩ := rfl

set_option maxRecDepth 100000 in
set_option maxHeartbeats 2000000 in
theorem makeR_any {F : Nat → Prop} {w : World} {v : Value} {l : List Bool} (hl : BoolsIn F w v l) (h256 : l.length = 256) (hF : ∀ g, F g → g < w.heap.size) :
    Calls Tryz.prog 167 #[v] w (SomeSe w) := by
  obtain ⟨ad, cp, rfl, _, hr⟩ := hl
  obtain ⟨ga, oa, rfl, hga, hca⟩ := hr (by intro e; rw [e] at h256; simp at h256)
  have hgl := hF ga hga
  have HCA := hid (show ∀ W : World, Below w.heap.size w W → ∀ i (hi : i < l.length), W.cell? ⟨ga, oa + i, none⟩ = some (.bool l[i]) from fun W hW i hi => by
    obtain ⟨_, hc0, rfl⟩ := hca i hi
    exact (cell_heap (hW.block ga hgl)).trans hc0)
  clear hca hr hF
  go_enter Tryz.func167, Tryz.ntmps167
  go_wp2
  go_loopw [4] (fun i wr => ∃ (k : Nat) (t : Se), k ≤ 256 ∧ i = .int .i64 k ∧ wr.heap[w.heap.size]? = some (.cells Se.none.cs 30 (0, 0)) ∧ wr.heap[w.heap.size + 1]? = some (.cells t.cs 30 (0, 0)) ∧ Below w.heap.size w wr) (fun i _ => 256 - (RowKit.intOf i).toNat)
  case atStart => exact ⟨0, Se.none, by omega, rfl, heap_alloc2_old _ _ _, heap_alloc2_new _ _ _, ((Below.refl _ _).alloc (Nat.le_refl _) _).alloc (by simp) _⟩
  case round =>
    obtain ⟨k, t, hk, rfl, hb0, hb1, hbel⟩ := hrel
    have HB0 := hid hb0
    have HB1 := hid hb1
    obtain ⟨ta, tb, tc, td⟩ := t
    have c0 : wr.cell? ⟨w.heap.size + 1, 0, none⟩ = some (.int .u64 ta) := cell_of_row _ _ _ _ _ _ hb1
    have c1 : wr.cell? ⟨w.heap.size + 1, 1, none⟩ = some (.int .u64 tb) := cell_of_row _ _ _ _ _ _ hb1
    have c2 : wr.cell? ⟨w.heap.size + 1, 2, none⟩ = some (.int .u64 tc) := cell_of_row _ _ _ _ _ _ hb1
    have c3 : wr.cell? ⟨w.heap.size + 1, 3, none⟩ = some (.int .u64 td) := cell_of_row _ _ _ _ _ _ hb1
    have f0 : wr.frozen? ⟨w.heap.size + 1, 0, none⟩ = false := frozen_of_row _ _ _ _ _ hb1
    have f1 : wr.frozen? ⟨w.heap.size + 1, 1, none⟩ = false := frozen_of_row _ _ _ _ _ hb1
    have f2 : wr.frozen? ⟨w.heap.size + 1, 2, none⟩ = false := frozen_of_row _ _ _ _ _ hb1
    have f3 : wr.frozen? ⟨w.heap.size + 1, 3, none⟩ = false := frozen_of_row _ _ _ _ _ hb1
    by_cases hlt : k < 256
    · have hkl : k < l.length := by omega
      have hkl' : (k : Int) < (l.length : Int) := by omega
      have hcell := HCA.out wr hbel k hkl
      clear hb0 hb1
      have H256 := hid h256
      clear h256
      cases hb : l[k]
      · rw [hb] at hcell
        clear hb
        go_wp2
        go_roundw
        case rel => exact ⟨k + 1, ⟨ta, tb, tc, td⟩, by omega, by go_num, HB0.out, HB1.out, hbel⟩
        case measure => simp [RowKit.intOf]; omega
      · rw [hb] at hcell
        clear hb
        have hcase : k / 64 = 0 ∨ k / 64 = 1 ∨ k / 64 = 2 ∨ k / 64 = 3 := by omega
        rcases hcase with hq | hq | hq | hq
        all_goals
          have hq' : (k : Int) / 64 = _ := (by omega : _ = ((k / 64 : Nat) : Int)).trans (congrArg _ hq)
          clear hq
          simp only [Int.cast_ofNat_Int] at hq'
          have x0 : IntKind.i64.wrap 0 = 0 := by decide
          have x1 : IntKind.i64.wrap 1 = 1 := by decide
          have x2 : IntKind.i64.wrap 2 = 2 := by decide
          have x3 : IntKind.i64.wrap 3 = 3 := by decide
          go_wp2
          go_region_with ((go_at_call 195; refine (powerR_any _ (k % 64) (tmod_nat k) (by omega) _).mono ?_; rintro e w' ⟨rfl, rfl⟩))
          all_goals go_wp2
          all_goals go_roundw
          all_goals first
            | (case rel => exact ⟨k + 1, _, by omega, by go_num, (heap_set_other (by omega) _).trans HB0.out, (heap_set HB1.out _).trans (by first | rw [se_set0] | rw [se_set1] | rw [se_set2] | rw [se_set3]), ((hbel.setCell (by simp) _).drew)⟩)
            | (case measure => simp [RowKit.intOf]; omega)
    · clear HCA
      have HBX := hid hbel
      have z0 : wr.cell? ⟨w.heap.size, 0, none⟩ = some (.int .u64 0) := cell_of_row _ _ _ _ _ _ hb0
      have z1 : wr.cell? ⟨w.heap.size, 1, none⟩ = some (.int .u64 0) := cell_of_row _ _ _ _ _ _ hb0
      have z2 : wr.cell? ⟨w.heap.size, 2, none⟩ = some (.int .u64 0) := cell_of_row _ _ _ _ _ _ hb0
      have z3 : wr.cell? ⟨w.heap.size, 3, none⟩ = some (.int .u64 0) := cell_of_row _ _ _ _ _ _ hb0
      have g0 : wr.frozen? ⟨w.heap.size, 0, none⟩ = false := frozen_of_row _ _ _ _ _ hb0
      have g1 : wr.frozen? ⟨w.heap.size, 1, none⟩ = false := frozen_of_row _ _ _ _ _ hb0
      have g2 : wr.frozen? ⟨w.heap.size, 2, none⟩ = false := frozen_of_row _ _ _ _ _ hb0
      have g3 : wr.frozen? ⟨w.heap.size, 3, none⟩ = false := frozen_of_row _ _ _ _ _ hb0
      clear hb0 hb1
      go_wp2
      exact bodyPost_ret (v := (⟨ta, tb, tc, td⟩ : Se).v) (by simp [results, Tryz.results167, go_sem, z0, z1, z2, z3]) rfl ⟨⟨⟨ta, tb, tc, td⟩, rfl⟩, (((HBX.out.setCell (by simp) _).setCell (by simp) _).setCell (by simp) _).setCell (by simp) _⟩
theorem infoBoolR : (Tryz.prog.info? 4).map (fun i => (i.zero, i.size, i.bytes)) = some (some (.bool false), 1, 1) := by kernel_rfl
/-- a row of truths of the call's own -/
abbrev BRow (w : World) (base g n : Nat) (l : List Bool) : Prop := w.ownsRow base 4 1 (.slice (some ⟨g, 0, none⟩) n n) n (l.map Value.bool)
theorem brow_made {w : World} {base g n : Nat} (h : w.ownsRow base 4 1 (.slice (some ⟨g, 0, none⟩) n n) n (madeCells (Value.bool false).cells (n * 1)).toList) : BRow w base g n (List.replicate n false) := by
  rw [made_rep (.bool false) n rfl] at h
  show World.ownsRow _ _ _ _ _ _ _
  rw [List.map_replicate]
  exact h
theorem BRow.bools {w : World} {base g n : Nat} {l : List Bool} (h : BRow w base g n l) (hn : l.length = n) : BoolsIn (fun q => q < w.heap.size) w (.slice (some ⟨g, 0, none⟩) n n) l := by
  subst hn
  rcases h.2 with ⟨hv, _⟩ | ⟨g', cap, cur, hv, hb, hg, hl, hc, hs, ht⟩
  · cases hv
  · cases hv
    exact ⟨_, _, rfl, hc, fun _ => ⟨g, 0, rfl, lt_of_heap hg, fun i hi => ⟨.bool l[i], by rw [Nat.zero_add, h.cellAt i (by omega), List.getElem?_map, List.getElem?_eq_getElem hi]; rfl, rfl⟩⟩⟩
theorem BRow.cell {w : World} {base g n : Nat} {l : List Bool} (h : BRow w base g n l) {i : Nat} (hi : i < l.length) (hn : l.length = n) : w.cell? ⟨g, i, none⟩ = some (.bool l[i]) := by
  rw [h.cellAt i (by omega), List.getElem?_map, List.getElem?_eq_getElem hi]; rfl
theorem BRow.set {w : World} {base g n : Nat} {l : List Bool} (h : BRow w base g n l) (i : Nat) (b : Bool) : BRow (w.setCell ⟨g, i, none⟩ (.bool b)) base g n (l.set i b) := by
  show World.ownsRow _ _ _ _ _ _ _
  rw [List.map_set]
  exact own_store (i := i) (.bool b) h
end Go.Proofs.YtfljcfdfgojdoaaGreatDoor.Sh.Rf
