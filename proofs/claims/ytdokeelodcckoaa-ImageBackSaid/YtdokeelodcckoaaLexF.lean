/-
  The contracts of strings.HasPrefix and lex.sign.
-/
import Derived.Test.YtdokeelodcckoaaLexE
import Derived.Lib.OthersKept
namespace Go.Proofs.Ytdokeelodcckoaa
open Go.RowKit Go.Lib

def prefB (p r : List B) : Bool := r.take p.length == p
theorem prefB_yes (s p : ByteArray) : ((s.extract 0 p.size).toList == p.toList) = prefB p.data.toList s.data.toList := by
  unfold prefB
  rw [ByteArray.toList_eq, ByteArray.toList_eq, Bool.eq_iff_iff]
  simp
theorem prefB_no (s p : ByteArray) (h : ¬ p.size ≤ s.size) : prefB p.data.toList s.data.toList = false := by
  unfold prefB
  rw [beq_eq_false_iff_ne]
  intro e
  have := congrArg List.length e
  simp at this
  omega

set_option maxHeartbeats 400000 in
theorem prefix_any (s p : ByteArray) (w : World)  :
    Calls Try.prog 106 #[.string s, .string p] w fun e w' => e = .returned (.bool (prefB p.data.toList s.data.toList)) ∧ w = w' := by
  go_enter Try.func106, Try.ntmps106
  go_wp2
  · go_ret
    exact ⟨bool_eq (prefB_yes s p), rfl⟩
  · go_ret
    exact ⟨bool_eq (prefB_no s p (by assumption)).symm, rfl⟩

abbrev signs : ByteArray := ⟨#[61, 59, 40, 41, 124, 38, 33, 42, 43, 63, 58, 46, 47, 44, 123, 125, 126, 62]⟩
theorem signs_low : ∀ (i : Nat) (h : i < 18), (signs[i]'h).toNat < 128 := by decide
def isSign (c : B) : Bool := signs.data.toList.any (fun d => d.toNat == c.toNat)
def signL (r : List B) : Except Int (Tok × Nat) :=
  if prefB [45, 62] r then .ok (⟨4, [45, 62], Se.none, 0, 0⟩, 2) else
  match r with
  | [] => .error 4
  | c :: _ => if isSign c then .ok (⟨4, [c], Se.none, 0, 0⟩, 1) else .error 4

theorem prefB_two (s : ByteArray) (k : Nat) (h : prefB [45, 62] (sfx s k) = true) : k + 2 ≤ s.size := by
  unfold prefB at h
  rw [beq_iff_eq] at h
  have := congrArg List.length h
  simp [sfx_len] at this
  omega
theorem sign_eq {a b : B} (h : ((a.toNat : Int) == wrap32 (b.toNat : Int)) = true) : a.toNat = b.toNat := by
  have hb := b.toNat_lt
  rw [IntWalk.wrap32_in _ ⟨by omega, by omega⟩, beq_iff_eq] at h
  omega
theorem sign_ne {a b : B} (h : ((a.toNat : Int) == wrap32 (b.toNat : Int)) = false) : a.toNat ≠ b.toNat := by
  have hb := b.toNat_lt
  rw [IntWalk.wrap32_in _ ⟨by omega, by omega⟩, beq_eq_false_iff_ne] at h
  omega
theorem isSign_iff (c : B) : isSign c = true ↔ ∃ (j : Nat) (h : j < 18), (signs[j]'h).toNat = c.toNat := by
  unfold isSign
  rw [List.any_eq_true]
  constructor
  · rintro ⟨d, hd, he⟩
    obtain ⟨j, hj, rfl⟩ := List.getElem_of_mem hd
    exact ⟨j, hj, beq_iff_eq.1 he⟩
  · rintro ⟨j, h, he⟩
    exact ⟨signs[j], List.getElem_mem (l := signs.data.toList) h, by simpa using he⟩
theorem signL_yes (s : ByteArray) (k : Nat) (hk : k < s.size) (hp : prefB [45, 62] (sfx s k) = false) (pos : Nat) (h : pos < 18) (he : (((signs[pos]'h).toNat : Int) == wrap32 ((s[k]'hk).toNat : Int)) = true) :
    signL (sfx s k) = .ok (⟨4, [s[k]], Se.none, 0, 0⟩, 1) := by
  unfold signL
  rw [hp, sfx_cons s k hk]
  simp only [Bool.false_eq_true, if_false]
  rw [if_pos ((isSign_iff _).2 ⟨pos, h, sign_eq he⟩)]
theorem signL_no (s : ByteArray) (k : Nat) (hk : k < s.size) (hp : prefB [45, 62] (sfx s k) = false) (he : ∀ (j : Nat) (h : j < 18), (signs[j]'h).toNat ≠ (s[k]'hk).toNat) :
    signL (sfx s k) = .error 4 := by
  unfold signL
  rw [hp, sfx_cons s k hk]
  simp only [Bool.false_eq_true, if_false]
  rw [if_neg (fun hc => by obtain ⟨j, h, e⟩ := (isSign_iff _).1 hc; exact he j h e)]

set_option maxHeartbeats 400000 in
theorem sign_any (s : ByteArray) (k : Nat) (w : World) (hk : k < s.size) (hs : s.size ≤ maxLen) :
    Calls Try.prog 102 #[.string s, .int .i64 k] w fun e w' => e = .returned (tokV k (signL (sfx s k))) ∧ Below w.heap.size w w' := by
  unfold maxLen at hs
  have hp : Hid (prefB [45, 62] (s.extract k s.size).data.toList = prefB [45, 62] (sfx s k)) := by
    show _ = _
    congr 1
    simp [sfx]
    rw [List.take_of_length_le (by simp)]
  cases hpv : prefB [45, 62] (sfx s k)
  · have hpv' := hid hpv
    clear hpv
    have hz0 : ((w.alloc (.cells #[.int .i64 0, .string ⟨#[]⟩, .int .u64 0, .int .u64 0, .int .u64 0, .int .u64 0, .int .i64 0, .int .i64 0] 119)).iter signs 0).heap[w.heap.size]? = some (.cells Tok.zero.cells 119) := heap_alloc2_old _ _ _
    have hz1 : ((w.alloc (.cells #[.int .i64 0, .string ⟨#[]⟩, .int .u64 0, .int .u64 0, .int .u64 0, .int .u64 0, .int .i64 0, .int .i64 0] 119)).iter signs 0).heap[w.heap.size + 1]? = some (.stringIter signs 0) := heap_alloc2_new _ _ _
    go_enter Try.func102, Try.ntmps102
    go_wp2_with (first | (go_at_call 106; refine (prefix_any _ _ _).mono ?_; rintro e w' ⟨rfl, rfl⟩; rw [hp.out, hpv'.out]))
    go_loopw [8] (fun _ wr => ∃ pos : Nat, pos ≤ 18 ∧ wr.heap[w.heap.size]? = some (.cells Tok.zero.cells 119) ∧ wr.heap[w.heap.size + 1]? = some (.stringIter signs pos) ∧ Below w.heap.size w wr ∧ Hid (∀ j, j < pos → ∀ h : j < 18, (signs[j]'h).toNat ≠ (s[k]'hk).toNat)) (fun _ wr => 18 - wr.iterPos (w.heap.size + 1))
    case atStart => exact ⟨0, by omega, hz0, hz1, ((Below.refl _ _).alloc (Nat.le_refl _) _).alloc (by simp) _, fun j hj => by omega⟩
    case round =>
      obtain ⟨pos, hpos, hb0, hb1, hbel, H⟩ := hrel
      clear hz0 hz1
      by_cases hlt : pos < 18
      · have h128 := signs_low pos hlt
        have hnx : ∀ ty, (Instr.next (.pointer (some ⟨w.heap.size + 1, 0, none⟩)) true ty).run Try.prog wr = _ := fun ty => run_next_ascii_at (P := Try.prog) wr (w.heap.size + 1) signs pos ty hb1 hlt h128
        have hb2 := iterAt_heap wr (w.heap.size + 1) signs pos (pos + 1) hb1
        have hb3 := (iterAt_other wr (w.heap.size + 1) w.heap.size signs (pos + 1) (by omega)).trans hb0
        have hbel2 := below_iterAt hbel (k := w.heap.size + 1) (by omega) signs (pos + 1)
        have hmu : wr.iterPos (w.heap.size + 1) = pos := by simp [World.iterPos, hb1]
        generalize wr.iterAt (w.heap.size + 1) signs (pos + 1) = W1 at hnx hb2 hb3 hbel2
        have HB := hid hb1
        have HB0 := hid hb0
        have HM := hid hmu
        clear hb1 hb0 hmu
        have HB2 := hid hb2
        have HB3 := hid hb3
        clear hb2 hb3
        go_wp2_with (refine wpList_store_blk rfl 119 (.tmp 4) (.tmp 31) rfl 8 info63 w.heap.size 119 _ HB3.out rfl (#[.int .i64 4, .string (s.extract k (k + 1)), .int .u64 0, .int .u64 0, .int .u64 0, .int .u64 0, .int .i64 0, .int .i64 0]) rfl rfl rfl rfl ?_)
        · have he : ((signs[pos]'hlt).toNat : Int) == wrap32 ((s[k]'hk).toNat : Int) := by assumption
          have hsg := signL_yes s k hk hpv'.out pos hlt he
          exact bodyPost_ret (results_cell3 rfl _ _ w.heap.size 119 _ (0, 0) _ rfl (setRow_heap HB3.out _) Try.underlying119 rfl info63) rfl ⟨ret_eq (by rw [tokV_ok hsg]; simp [Tok.cells, Se.none, extract_sfx, sfx_cons s k hk]), Below.setRow hbel2 (Nat.le_refl _) _⟩
        · have he : (((signs[pos]'hlt).toNat : Int) == wrap32 ((s[k]'hk).toNat : Int)) = false := by assumption
          go_roundw
          case rel =>
            refine ⟨pos + 1, by omega, HB3.out, HB2.out, hbel2, fun j hj h => ?_⟩
            by_cases hjp : j < pos
            · exact H.out j hjp h
            · obtain rfl : j = pos := by omega
              exact sign_ne he
          case measure =>
            have hmu2 : W1.iterPos (w.heap.size + 1) = pos + 1 := by simp [World.iterPos, HB2.out]
            rw [HM.out, hmu2]
            omega
      · obtain rfl : pos = 18 := by omega
        have hnx : ∀ ty, (Instr.next (.pointer (some ⟨w.heap.size + 1, 0, none⟩)) true ty).run Try.prog wr = _ := fun ty => run_next_end_at (P := Try.prog) wr (w.heap.size + 1) signs 18 ty hb1 (by decide)
        have HB0 := hid hb0
        clear hb0 hb1
        have hsg := signL_no s k hk hpv'.out (fun j h => H.out j h h)
        go_wp2_with (refine wpList_store_blk rfl 119 (.tmp 4) (.tmp 34) rfl 8 info63 w.heap.size 119 _ HB0.out rfl Tok.zero.cells rfl rfl rfl rfl ?_)
        exact bodyPost_ret (results_cell3 rfl _ _ w.heap.size 119 _ (0, 0) _ rfl (setRow_heap HB0.out _) Try.underlying119 rfl info63) rfl ⟨ret_eq (by rw [tokV_bad hsg]; simp [Tok.cells, Tok.zero, Se.none]), Below.setRow hbel (Nat.le_refl _) _⟩
  · have hpv' := hid hpv
    have hk2 : k + 2 ≤ s.size := prefB_two s k hpv
    clear hpv
    go_enter Try.func102, Try.ntmps102
    go_wp2_with (first | (go_at_call 106; refine (prefix_any _ _ _).mono ?_; rintro e w' ⟨rfl, rfl⟩; rw [hp.out, hpv'.out]))
    have hsg : signL (sfx s k) = .ok (⟨4, [45, 62], Se.none, 0, 0⟩, 2) := by unfold signL; rw [hpv'.out]; rfl
    exact bodyPost_ret (v := tokV k (signL (sfx s k))) (by simp [results, Try.results102, go_sem, tokV_ok hsg, Tok.cells, Se.none]) rfl ⟨rfl, (Below.refl _ _).alloc (Nat.le_refl _) _⟩
end Go.Proofs.Ytdokeelodcckoaa
