/-
  The contract of lex.name, and laws for a result that lies in a block of its own.
-/
import Derived.Test.YtdokeelodcckoaaLexC
import Derived.Test.YtdokeelodcckoaaTokM
namespace Go.Proofs.Ytdokeelodcckoaa
open Go.RowKit Go.Lib

theorem results_cell3 {P : Program} {fn : Func} {p q r : Tmp} {ty : TypeId} (h : fn.results = #[.cell p ty, .tmp q, .tmp r]) (tmps : Array Value) (w : World) (g : Nat) (t : TypeId) (cs : Array Value) (fr : Nat × Nat) (d : TypeDesc)
    (hp : tmps.getD p undef = .pointer (some ⟨g, 0, none⟩)) (hg : w.heap[g]? = some (.cells cs t fr))
    (hu : P.underlying ty = some d) (hd : (match d with | .struct _ | .array _ _ => true | _ => false) = true) (hi : (P.info? ty).map (·.size) = some cs.size) :
    (results fn tmps).run P w = .ok (.tuple #[.agg cs, tmps.getD q undef, tmps.getD r undef]) w := by
  have hp' : tmps[p]?.getD undef = .pointer (some ⟨g, 0, none⟩) := by simpa using hp
  simp [results, h, hp', asAddr, run_loadVar_row w g t ty cs fr d hg hu hd hi]
theorem setRow_heap {w : World} {g : Nat} {old : Array Value} {t : TypeId} (hg : w.heap[g]? = some (.cells old t (0, 0))) (cs : Array Value) : (w.setRow g cs).heap[g]? = some (.cells cs t (0, 0)) := by
  simp [World.setRow, Array.getElem?_modify, hg]
theorem setRow_other {w : World} {g k : Nat} (cs : Array Value) (h : k ≠ g) : (w.setRow g cs).heap[k]? = w.heap[k]? := by
  simp [World.setRow, Array.getElem?_modify, Ne.symm h]
theorem Below.setRow {B : Nat} {a w : World} (h : Below B a w) {g : Nat} (hg : B ≤ g) (cs : Array Value) : Below B a (w.setRow g cs) :=
  h.trans ⟨rfl, rfl, rfl, by simp, fun k hk => setRow_other cs (by omega)⟩
/-- A whole struct goes into a block of its own, which is known whole. -/
theorem wpList_store_blk {P : Program} {ops : Array Oper} {rest : List Oper} {o : Oper} {a : Act} {w : World} {Q : Exit → Act → World → Prop} (hgd : o.guard = none) (ty : TypeId) (x y : Operand) (ho : o.op = .store ty x y)
    (n : Nat) (hi : (P.info? ty).map (·.size) = some n) (g : Nat) (t : TypeId) (old : Array Value) (hg : w.heap[g]? = some (.cells old t (0, 0))) (hold : old.size = n)
    (cells : Array Value) (hx : a.eval x = .pointer (some ⟨g, 0, none⟩)) (hy : a.eval y = .agg cells) (hn : cells.size = n) (h1 : cells.toList.all (·.oneCell') = true)
    (h : wpList P ops Q rest (a.put o.dst undef) (w.setRow g cells)) : wpList P ops Q (o :: rest) a w := by
  subst hn
  exact wpList_store_row hgd ty x y ho g cells hx hy t old hg hi hold (by rw [← Array.all_toList]; exact h1) h
theorem tok_size (t : Tok) : t.cells.size = 8 := rfl
theorem info63 : (Try.prog.info? 119).map (·.size) = some 8 := by kernel_rfl

theorem tokV_bad {k : Nat} {x : Except Int (Tok × Nat)} {e : Int} (h : x = .error e) : tokV k x = .tuple #[.agg #[.int .i64 0, .string ⟨#[]⟩, .int .u64 0, .int .u64 0, .int .u64 0, .int .u64 0, .int .i64 0, .int .i64 0], .int .i64 0, .int .i64 e] := by
  rw [h]; rfl
theorem tokV_ok {k n : Nat} {x : Except Int (Tok × Nat)} {t : Tok} (h : x = .ok (t, n)) : tokV k x = .tuple #[.agg t.cells, .int .i64 ((k : Int) + n), .int .i64 0] := by
  rw [h]; rfl
theorem nameL_bad {r : List B} {m : Nat} (h : nameLen r = m) (hm : 31 < m) : nameL r = .error 2 := by
  unfold nameL; rw [if_pos (by omega)]
theorem nameL_ok {r : List B} {m : Nat} (h : nameLen r = m) (hm : ¬ 31 < m) : nameL r = .ok (⟨1, r.take m, Se.none, 0, 0⟩, m) := by
  unfold nameL; rw [if_neg (by omega), h]
theorem nameB_letter {c : B} (h : letterB c.toNat = true) : nameB c = true := by simp [nameB, h]
theorem nameB_digit {c : B} (h : digitB c.toNat = true) : nameB c = true := by simp [nameB, h]
theorem nameB_not {c : B} (h : ¬ letterB c.toNat = true) (h' : digitB c.toNat = false) : nameB c = false := by simp [nameB, h, h']

set_option maxHeartbeats 400000 in
theorem name_any (s : ByteArray) (k : Nat) (w : World) (hk : k ≤ s.size) (hs : s.size ≤ maxLen) :
    Calls Try.prog 97 #[.string s, .int .i64 k] w fun e w' => e = .returned (tokV k (nameL (sfx s k))) ∧ Below w.heap.size w w' := by
  unfold maxLen at hs
  go_enter Try.func97, Try.ntmps97
  go_wp2
  go_loop [7] (fun i => ∃ m : Nat, k + m ≤ s.size ∧ i = .int .i64 ((k : Int) + m) ∧ Hid (nameLen (sfx s k) = m + nameLen (sfx s (k + m)))) (fun i => s.size - (intOf i).toNat)
  case atStart => exact ⟨0, hk, by simp, by show _ = _; simp⟩
  case round =>
    obtain ⟨m, hm, rfl, H⟩ := hrel
    by_cases hlt : k + m < s.size
    · have hc := hid (sfx_cons s (k + m) hlt)
      go_wp2_with (first | (go_at_call 96; refine (letter_any _ _).mono ?_; rintro e w' ⟨rfl, rfl⟩) | (go_at_call 98; refine (digit_any _ _).mono ?_; rintro e w' ⟨rfl, rfl⟩))
      case roundEnd =>
        have hl : letterB s[k + m].toNat = true := by assumption
        go_round
        case rel => exact ⟨m + 1, by omega, by go_num, by show _ = _; rw [H.out, hc.out, nameLen_yes (nameB_letter hl)]; simp only [Nat.add_assoc]; omega⟩
        case measure => simp [intOf]; omega
      case roundEnd =>
        have hl : digitB s[k + m].toNat = true := by assumption
        go_round
        case rel => exact ⟨m + 1, by omega, by go_num, by show _ = _; rw [H.out, hc.out, nameLen_yes (nameB_digit hl)]; simp only [Nat.add_assoc]; omega⟩
        case measure => simp [intOf]; omega
      all_goals go_light
      all_goals have hl : ¬ letterB s[k + m].toNat = true := by assumption
      all_goals have hd : digitB s[k + m].toNat = false := by assumption
      all_goals have hn : nameLen (sfx s k) = m := by rw [H.out, hc.out, nameLen_no (nameB_not hl hd)]; rfl
      · exact bodyPost_ret (v := tokV k (nameL (sfx s k))) (by simp [results, Try.results97, go_sem, tokV_bad (nameL_bad hn (by omega))]) rfl ⟨rfl, (Below.refl _ _).alloc (Nat.le_refl _) _⟩
      · exact bodyPost_ret (v := tokV k (nameL (sfx s k))) (by simp [results, Try.results97, go_sem, tokV_ok (nameL_ok hn (by omega)), Tok.cells, Se.none, extract_sfx]) rfl ⟨rfl, (Below.refl _ _).alloc (Nat.le_refl _) _⟩
    · go_wp2
      all_goals go_light
      all_goals have hn : nameLen (sfx s k) = m := by rw [H.out, sfx_nil s (k + m) (by omega)]; rfl
      · exact bodyPost_ret (v := tokV k (nameL (sfx s k))) (by simp [results, Try.results97, go_sem, tokV_bad (nameL_bad hn (by omega))]) rfl ⟨rfl, (Below.refl _ _).alloc (Nat.le_refl _) _⟩
      · exact bodyPost_ret (v := tokV k (nameL (sfx s k))) (by simp [results, Try.results97, go_sem, tokV_ok (nameL_ok hn (by omega)), Tok.cells, Se.none, extract_sfx]) rfl ⟨rfl, (Below.refl _ _).alloc (Nat.le_refl _) _⟩
end Go.Proofs.Ytdokeelodcckoaa
