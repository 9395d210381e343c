/-
  Names: the contracts of parse.reserved and parse.mayBeName.
-/
import Derived.Test.YtdokeelodcckoaaLexJ
import Derived.Test.YtdokeelodcckoaaImgE
namespace Go.Proofs.Ytdokeelodcckoaa.Im
open Go.RowKit Go.Lib

def reservedB (s : List B) : Bool := s == [100, 101, 102] || s == [109, 97, 112] || s == [116, 111, 107, 101, 110] || s == [114, 117, 108, 101] || s == [95]
def nameOk (l : List B) : Bool := decide ((nextL 0 l).err = 0) && (decide ((nextL 0 l).tok.kind = 1) && (((nextL 0 l).tok.text == l) && !reservedB l))

set_option maxRecDepth 100000 in
theorem reserved_any (l : List B) (w : World) :
    Calls Try.prog 89 #[.string ⟨l.toArray⟩] w fun e w' => e = .returned (.bool (reservedB l)) ∧ w = w' := by
  go_enter Try.func89, Try.ntmps89
  go_wp2
  all_goals go_ret
  all_goals refine ⟨bool_eq ?_, rfl⟩
  all_goals simp_all [reservedB]
theorem next_at (s : ByteArray) (a : Int) (k : Nat) (w : World) (ha : a = k) (hk : k ≤ s.size) (hs : s.size ≤ 140737488351232) :
    Calls Try.prog 88 #[.string s, .int .i64 a] w fun e w' => e = .returned (nextL k (sfx s k)).v ∧ Below w.heap.size w w' := by
  subst ha; exact next_any s k w hk hs
theorem sfx_of (l : List B) : sfx ⟨l.toArray⟩ 0 = l := by simp [sfx]

set_option maxRecDepth 100000 in
set_option maxHeartbeats 1000000 in
theorem mayBeName_any (l : List B) (w : World) (hs : l.length ≤ 140737488351232) :
    Calls Try.prog 78 #[.string ⟨l.toArray⟩] w fun e w' => e = .returned (.bool (nameOk l)) ∧ Below w.heap.size w w' := by
  have hs' : (⟨l.toArray⟩ : ByteArray).size ≤ 140737488351232 := by simpa [ByteArray.size] using hs
  have HS := hid hs'
  have hn : nameOk l = (decide ((nextL 0 (sfx ⟨l.toArray⟩ 0)).err = 0) && (decide ((nextL 0 (sfx ⟨l.toArray⟩ 0)).tok.kind = 1) && (((nextL 0 (sfx ⟨l.toArray⟩ 0)).tok.text == l) && !reservedB l))) := by rw [sfx_of]; rfl
  have HN := hid hn
  clear hs hs' hn
  generalize hx : nextL 0 (sfx ⟨l.toArray⟩ 0) = x at *
  have HX := hid hx
  clear hx
  obtain ⟨t, nx, er⟩ := x
  obtain ⟨tk, tt, ts, tn, tp⟩ := t
  simp only at HN
  go_enter Try.func78, Try.ntmps78
  go_wp2_with (first | (go_at_call 88; refine (next_at ⟨l.toArray⟩ _ 0 _ rfl (Nat.zero_le _) HS.out).mono ?_; rintro e w1 ⟨rfl, hb1⟩; rw [HX.out]; simp only [Nx.v, Tok.cells]) | (go_at_call 89; refine (reserved_any l _).mono ?_; rintro e w2 ⟨rfl, rfl⟩))
  all_goals
    go_ret
    refine ⟨bool_eq ?_, bbox hb1 _⟩
    rw [HN.out]
    simp [*]
theorem bump_ok {x : Except Int (Tok × Nat)} {t : Tok} {n : Nat} (h : bump x = .ok (t, n)) : ∃ m, x = .ok (t, m) ∧ n = m + 1 := by
  rcases x with e' | ⟨t', m⟩
  · cases h
  · cases h; exact ⟨m, rfl, rfl⟩
theorem setFin_kind {n m : Nat} {b : Bool} {x : Except Int (Se × List B)} {t : Tok} (h : setFin n b x = .ok (t, m)) : t.kind = 3 := by
  rcases x with e' | ⟨u, r⟩
  · cases h
  · cases h; rfl
theorem tokenL_name {r : List B} {t : Tok} {n : Nat} (h : tokenL r = .ok (t, n)) (hk1 : t.kind = 1) : t.text.length ≤ 31 := by
  rcases r with _ | ⟨c, r⟩
  · cases h
  · unfold tokenL at h
    simp only at h
    split at h
    · unfold nameL at h
      split at h
      · cases h
      · cases h
        simp only [List.length_take]
        omega
    · exfalso
      split at h
      · have hk : t.kind = 5 := by
          unfold numL at h; split at h <;> cases h; rfl
        exact absurd (hk.symm.trans hk1) (by decide)
      · split at h
        · obtain ⟨m, hm, rfl⟩ := bump_ok h
          unfold quotedL at hm
          split at hm
          · cases hm
          · split at hm
            · cases hm
            · cases hm
              simp at hk1
        · split at h
          · obtain ⟨m, hm, rfl⟩ := bump_ok h
            have hk : t.kind = 3 := by
              unfold bytesL at hm
              split at hm
              · exact setFin_kind hm
              · split at hm
                · exact setFin_kind hm
                · exact setFin_kind hm
            exact absurd (hk.symm.trans hk1) (by decide)
          · have hk : t.kind = 4 := by
              unfold signL at h
              split at h
              · cases h; rfl
              · split at h
                · cases h
                · split at h <;> cases h; rfl
            exact absurd (hk.symm.trans hk1) (by decide)
theorem nameOk_len {l : List B} (h : nameOk l = true) : l.length ≤ 31 := by
  simp only [nameOk, Bool.and_eq_true, decide_eq_true_eq, beq_iff_eq] at h
  obtain ⟨h1, h2, h3, _⟩ := h
  rw [← h3]
  unfold nextL at h1 h2 ⊢
  generalize white false l = r at h1 h2 ⊢
  rcases r with _ | ⟨c, r⟩
  · simp [nextAt] at h2
  · unfold nextAt at h1 h2 ⊢
    simp only at h1 h2 ⊢
    rcases ht : tokenL (c :: r) with e | ⟨t, n⟩
    · rw [ht] at h2; simp [Tok.zero] at h2
    · rw [ht] at h2
      simp only at h2 ⊢
      exact tokenL_name ht h2
theorem eqSet (a b c d a' b' c' d' : Int) (w : World) : (Op.equalIn 10000 93 (.agg #[.int .u64 a, .int .u64 b, .int .u64 c, .int .u64 d]) (.agg #[.int .u64 a', .int .u64 b', .int .u64 c', .int .u64 d'])).run Try.prog w = .ok (a == a' && b == b' && c == c' && d == d') w := by
  have u3 := Try.underlying91
  have a3 := Try.isAgg91
  have z3 := Try.sizeOf91
  rw [show (10000 : Nat) = 9999 + 1 from rfl, Op.equalIn]
  simp only [Sem.run_bind, run_underlying Try.underlying93, Result.andThen_ok]
  simp only [Std.Legacy.Range.forIn_eq_forIn_range', Std.Legacy.Range.size, Nat.sub_zero, Nat.add_sub_cancel, Nat.div_one, List.range'_succ, List.range'_zero, List.forIn_cons, List.forIn_nil]
  go_simp
  by_cases h1 : a = a' <;> by_cases h2 : b = b' <;> by_cases h3 : c = c' <;> by_cases h4 : d = d' <;> simp [h1, h2, h3, h4]
theorem cells_nine {w : World} {D : Nat} {T : TypeId} {v0 v1 v2 v3 v4 v5 v6 v7 v8 : Value} (h : w.heap[D]? = some (.cells #[v0, v1, v2, v3, v4, v5, v6, v7, v8] T (0, 0))) :
    w.cell? ⟨D, 0, none⟩ = some v0 ∧ w.cell? ⟨D, 1, none⟩ = some v1 ∧ w.cell? ⟨D, 2, none⟩ = some v2 ∧ w.cell? ⟨D, 3, none⟩ = some v3 ∧ w.cell? ⟨D, 4, none⟩ = some v4 ∧ w.cell? ⟨D, 5, none⟩ = some v5 ∧ w.cell? ⟨D, 6, none⟩ = some v6 ∧ w.cell? ⟨D, 7, none⟩ = some v7 ∧ w.cell? ⟨D, 8, none⟩ = some v8 :=
  ⟨cell_blk h rfl, cell_blk h rfl, cell_blk h rfl, cell_blk h rfl, cell_blk h rfl, cell_blk h rfl, cell_blk h rfl, cell_blk h rfl, cell_blk h rfl⟩
abbrev nameC (l : List B) : Array Value := #[.int .i64 3, .string ⟨l.toArray⟩, .int .u64 0, .int .u64 0, .int .u64 0, .int .u64 0, .slice none 0 0, .int .i64 0, .int .i64 0]

set_option maxRecDepth 100000 in
set_option maxHeartbeats 1000000 in
theorem deep_name (l : List B) (w : World) :
    Calls Try.prog 66 #[.agg (nameC l), .int .i64 200] w fun e w' => e = .returned (.bool false) ∧ Below w.heap.size w w' := by
  go_enter Try.func66, Try.ntmps66
  go_wp2_with fail
  refine wp_loop_rounds 1 ?_
  rw [rounds_succ]
  go_wp2_with fail
  go_ret
  exact ⟨rfl, (Below.refl _ w).alloc (Nat.le_refl _) _⟩

set_option maxRecDepth 100000 in
set_option maxHeartbeats 2000000 in
theorem right_name (l : List B) (w : World) (hs : l.length ≤ 140737488351232) :
    Calls Try.prog 67 #[.agg (nameC l)] w fun e w' => e = .returned (.bool (nameOk l)) ∧ Below w.heap.size w w' := by
  have e24 := eqSet
  cases hx : nameOk l
  · have HX := hid hx
    clear hx
    go_enter Try.func67, Try.ntmps67
    go_wp2_with (go_at_call 78; refine (mayBeName_any l _ hs).mono ?_; rintro e w1 ⟨rfl, hb1⟩; rw [HX.out])
    go_ret
    exact ⟨rfl, ((((Below.refl _ w).alloc (Nat.le_refl _) _).alloc (by simp) _).trans (hb1.mono (by simp; omega)))⟩
  · have HX := hid hx
    clear hx
    go_enter Try.func67, Try.ntmps67
    go_wp2_with (go_at_call 78; refine (mayBeName_any l _ hs).mono ?_; rintro e w1 ⟨rfl, hb1⟩; rw [HX.out]; have C1 := (hb1.block (w.heap.size + 1) (by simp)).trans (heap_alloc2_new _ _ _); have C0 := (hb1.block w.heap.size (by simp; omega)).trans (heap_alloc2_old _ _ _); obtain ⟨m0, m1, m2, m3, m4, m5, m6, m7, m8⟩ := cells_nine C1; obtain ⟨n0, n1, n2, n3, n4, n5, n6, n7, n8⟩ := cells_nine C0; clear C0 C1)
    refine wp_loop_rounds 1 ?_
    rw [rounds_succ]
    go_wp2_with fail
    go_ret
    exact ⟨rfl, ((((Below.refl _ w).alloc (Nat.le_refl _) _).alloc (by simp) _).trans (hb1.mono (by simp; omega)))⟩

set_option maxRecDepth 100000 in
set_option maxHeartbeats 1000000 in
theorem checkName_any (l : List B) (w : World) (hs : l.length ≤ 140737488351232) :
    Calls Try.prog 48 #[.agg (nameC l)] w fun e w' => e = .returned (.int .i64 (if nameOk l then 0 else 1)) ∧ Below w.heap.size w w' := by
  cases hx : nameOk l
  · have HX := hid hx
    clear hx
    go_enter Try.func48, Try.ntmps48
    go_wp2_with (first | (go_at_call 66; refine (deep_name l _).mono ?_; rintro e w1 ⟨rfl, hb1⟩; obtain ⟨m0, m1, m2, m3, m4, m5, m6, m7, m8⟩ := cells_nine ((hb1.block w.heap.size (by simp)).trans (heap_alloc_new _ _))) | (go_at_call 67; refine (right_name l _ hs).mono ?_; rintro e w2 ⟨rfl, hb2⟩; rw [HX.out]))
    go_ret
    exact ⟨rfl, bnext (((Below.refl _ w).alloc (Nat.le_refl _) _).trans (hb1.mono (by simp))) hb2⟩
  · have HX := hid hx
    clear hx
    go_enter Try.func48, Try.ntmps48
    go_wp2_with (first | (go_at_call 66; refine (deep_name l _).mono ?_; rintro e w1 ⟨rfl, hb1⟩; obtain ⟨m0, m1, m2, m3, m4, m5, m6, m7, m8⟩ := cells_nine ((hb1.block w.heap.size (by simp)).trans (heap_alloc_new _ _))) | (go_at_call 67; refine (right_name l _ hs).mono ?_; rintro e w2 ⟨rfl, hb2⟩; rw [HX.out]))
    go_ret
    exact ⟨rfl, bnext (((Below.refl _ w).alloc (Nat.le_refl _) _).trans (hb1.mono (by simp))) hb2⟩
end Go.Proofs.Ytdokeelodcckoaa.Im
