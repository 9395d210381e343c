/-
  An expression in memory; the contracts of reserved, enter and leave.
-/
import Derived.Test.YtcedjjlflahpcaaParA
namespace Go.Proofs.Ytcedjjlflahpcaa
open Go.RowKit Go.Lib

/-- the nine cells of an expression -/
abbrev reC (k : Int) (x : List B) (s : Se) (v : Value) (mn mx : Int) : Array Value := #[.int .i64 k, .string ⟨x.toArray⟩, .int .u64 s.a, .int .u64 s.b, .int .u64 s.c, .int .u64 s.d, v, .int .i64 mn, .int .i64 mx]
abbrev reZ : Array Value := #[.int .i64 0, .string ⟨#[]⟩, .int .u64 0, .int .u64 0, .int .u64 0, .int .u64 0, .slice none 0 0, .int .i64 0, .int .i64 0]
theorem info27 : (Try.prog.info? 27).map (·.size) = some 9 := by kernel_rfl
theorem info27' : (Try.prog.info? 27).map (fun i => (i.zero, i.size, i.bytes)) = some (some (.agg reZ), 9, 96) := by kernel_rfl
mutual
/-- nine cells read as an expression, whose parts lie in blocks that F holds of -/
def ReIn (F : Nat → Prop) (w : World) : Re → Array Value → Prop
  | .mk k x s ps mn mx, cs => ∃ ad cap xs, cs = reC k x s (.slice ad ps.length cap) mn mx ∧ w.ownsRow 0 27 9 (.slice ad ps.length cap) ps.length xs ∧ (∀ g, (Value.slice ad ps.length cap).ownBlock = some g → F g) ∧ PartsIn F w ps xs
def PartsIn (F : Nat → Prop) (w : World) : List Re → List Value → Prop
  | [], xs => xs = []
  | r :: rs, xs => ∃ cs rest, xs = cs.toList ++ rest ∧ ReIn F w r cs ∧ PartsIn F w rs rest
end
/-- the same, in blocks from base on -/
abbrev ReAt (base : Nat) : World → Re → Array Value → Prop := ReIn fun g => base ≤ g
theorem ownsRow_exist {w : World} {base e size n : Nat} {v : Value} {xs : List Value} (h : w.ownsRow base e size v n xs) {g : Nat} (hg : v.ownBlock = some g) : g < w.heap.size ∨ n = 0 := by
  rcases h.2 with ⟨rfl, h0⟩ | ⟨g', cap, cur, rfl, hbg, hgg, rest⟩
  · exact .inr h0
  · simp [Value.ownBlock] at hg
    subst hg
    exact .inl (Array.getElem?_eq_some_iff.1 hgg).1
theorem ownsRow_same {w w' : World} {base b2 e size n : Nat} {v : Value} {xs : List Value} (h : w.ownsRow base e size v n xs) (hb : ∀ g, v.ownBlock = some g → b2 ≤ g) (hf : ∀ g, v.ownBlock = some g → g < w.heap.size → w'.heap[g]? = w.heap[g]?) : w'.ownsRow b2 e size v n xs := by
  refine ⟨h.1, ?_⟩
  rcases h.2 with hn | ⟨g, cap, cur, rfl, hbg, hgg, rest⟩
  · exact .inl hn
  · exact .inr ⟨g, cap, cur, rfl, hb g rfl, (hf g rfl (Array.getElem?_eq_some_iff.1 hgg).1).trans hgg, rest⟩
mutual
theorem ReIn.frame {F F' : Nat → Prop} {w w' : World} (hF : ∀ g, F g → g < w.heap.size → F' g) (hf : ∀ g, F g → g < w.heap.size → w'.heap[g]? = w.heap[g]?) : ∀ {r : Re} {cs : Array Value}, ReIn F w r cs → ReIn F' w' r cs
  | .mk k x s ps mn mx, cs, h => by
    unfold ReIn at h ⊢
    obtain ⟨ad, cap, xs, h1, h2, h3, h4⟩ := h
    refine ⟨ad, cap, xs, h1, ownsRow_same h2 (fun _ _ => Nat.zero_le _) (fun g hg hl => hf g (h3 g hg) hl), fun g hg => ?_, PartsIn.frame hF hf h4⟩
    rcases h2.2 with ⟨hv, _⟩ | ⟨g', cap', cur, hv, _, hgg, _⟩
    · rw [hv] at hg; simp [Value.ownBlock] at hg
    · have hg0 := hg
      rw [hv] at hg
      simp [Value.ownBlock] at hg
      subst hg
      exact hF _ (h3 _ hg0) (Array.getElem?_eq_some_iff.1 hgg).1
theorem PartsIn.frame {F F' : Nat → Prop} {w w' : World} (hF : ∀ g, F g → g < w.heap.size → F' g) (hf : ∀ g, F g → g < w.heap.size → w'.heap[g]? = w.heap[g]?) : ∀ {l : List Re} {xs : List Value}, PartsIn F w l xs → PartsIn F' w' l xs
  | [], xs, h => by unfold PartsIn at h ⊢; exact h
  | r :: rs, xs, h => by
    unfold PartsIn at h ⊢
    obtain ⟨cs, rest, h1, h2, h3⟩ := h
    exact ⟨cs, rest, h1, ReIn.frame hF hf h2, PartsIn.frame hF hf h3⟩
end
theorem ReIn.kept {bp base b2 : Nat} {w w' : World} {r : Re} {cs : Array Value} (h : ReAt base w r cs) (hk : Kept bp w w') (hb : bp < base) (h2 : b2 ≤ base) : ReAt b2 w' r cs :=
  h.frame (fun _ hg _ => Nat.le_trans h2 hg) (fun g hg hl => hk.block g hl (fun e => by have := Option.some.inj e; omega))
theorem PartsIn.snoc {F : Nat → Prop} {w : World} : ∀ {l : List Re} {xs : List Value} {r : Re} {cs : Array Value}, PartsIn F w l xs → ReIn F w r cs → PartsIn F w (l ++ [r]) (xs ++ cs.toList)
  | [], xs, r, cs, h, h2 => by
    unfold PartsIn at h
    subst h
    show PartsIn F w [r] _
    unfold PartsIn PartsIn
    exact ⟨cs, [], by simp, h2, rfl⟩
  | r0 :: rs, xs, r, cs, h, h2 => by
    unfold PartsIn at h
    obtain ⟨c0, rest, rfl, h3, h4⟩ := h
    show PartsIn F w (r0 :: (rs ++ [r])) _
    unfold PartsIn
    exact ⟨c0, rest ++ cs.toList, by simp, h3, PartsIn.snoc h4 h2⟩
/-- a leaf of one's own making -/
theorem ReIn.leaf (F : Nat → Prop) (w : World) (k : Int) (x : List B) (s : Se) (mn mx : Int) : ReIn F w (.mk k x s [] mn mx) (reC k x s (.slice none 0 0) mn mx) := by
  unfold ReIn
  exact ⟨none, 0, [], rfl, World.ownsRow_nil _ _ _ _, fun g hg => by simp [Value.ownBlock] at hg, by unfold PartsIn; rfl⟩

/-- what a function of the parser leaves that hands back an expression -/
def RePost (T : List Tok) (bp bt cap a dep : Nat) (w : World) (x : R) (e : Ending) (w' : World) : Prop :=
  Kept bp w w' ∧ match x with
  | .ok (r, a') => a < a' ∧ Pz T bp bt cap a' dep w' ∧ ∃ cs, e = .returned (.agg cs) ∧ ReAt w.heap.size w' r cs
  | .error (p, y) => e = faultE p y
theorem RePost.bad {T : List Tok} {bp bt cap a dep : Nat} {w w' : World} {e : Ending} {x : R} {p y : Int} (h : RePost T bp bt cap a dep w x e w') (hx : x = .error (p, y)) : Kept bp w w' ∧ e = faultE p y := by
  subst hx; exact h
theorem RePost.good {T : List Tok} {bp bt cap a dep : Nat} {w w' : World} {e : Ending} {x : R} {r : Re} {a' : Nat} (h : RePost T bp bt cap a dep w x e w') (hx : x = .ok (r, a')) :
    Kept bp w w' ∧ a < a' ∧ Pz T bp bt cap a' dep w' ∧ ∃ cs, e = .returned (.agg cs) ∧ ReAt w.heap.size w' r cs := by
  subst hx; exact h

theorem reserved_any (s : ByteArray) (w : World) :
    Calls Try.prog 36 #[.string s] w fun e w' => e = .returned (.bool (reservedB s.data.toList)) ∧ w = w' := by
  go_enter Try.func36, Try.ntmps36
  go_wp2
  all_goals go_ret
  all_goals refine ⟨bool_eq ?_, rfl⟩
  all_goals simp_all [reservedB, toList_data]

set_option maxRecDepth 100000 in
set_option maxHeartbeats 1000000 in
theorem enter_yes {T : List Tok} {bp bt cap a dep : Nat} {w : World} (h : Pz T bp bt cap a dep w) (hk : (tokAt T a).kind ≠ 0) (hd : dep ≠ 32) :
    Calls Try.prog 57 #[.pointer (some ⟨bp, 0, none⟩)] w fun e w' => e = .returned (.tuple #[]) ∧ Kept bp w w' ∧ Pz T bp bt cap (a + 1) (dep + 1) w' := by
  have hlt := step_lt h hk
  have hfew := h.few
  have hdle := h.dle
  have hc1 := h.c1
  have hc2 := h.c2
  have hf1 := h.f1
  have hf2 := h.f2
  have hd' : ((dep : Int) == 32) = false := by rw [beq_eq_false_iff_ne]; omega
  clear hk
  go_enter Try.func57, Try.ntmps57
  go_wp2
  go_end0
  exact ⟨rfl, ((Kept.refl bp w).set 2 _).set 1 _, (h.setDep (by omega)).setAt hlt⟩
set_option maxRecDepth 100000 in
set_option maxHeartbeats 1000000 in
theorem enter_no {T : List Tok} {bp bt cap a : Nat} {w : World} (h : Pz T bp bt cap a 32 w) :
    Calls Try.prog 57 #[.pointer (some ⟨bp, 0, none⟩)] w fun e w' => e = faultE (tokAt T a).pos 8 ∧ Below w.heap.size w w' := by
  have hc2 := h.c2
  go_enter Try.func57, Try.ntmps57
  go_wp2_with (go_at_call 23; refine (fail_any h _).mono ?_; rintro e w2 ⟨rfl, hb2⟩)
  exact ⟨rfl, rfl, hb2⟩
set_option maxRecDepth 100000 in
set_option maxHeartbeats 1000000 in
theorem leave_any {T : List Tok} {bp bt cap a dep : Nat} {w : World} (h : Pz T bp bt cap a (dep + 1) w) :
    Calls Try.prog 58 #[.pointer (some ⟨bp, 0, none⟩)] w fun e w' => e = .returned (.tuple #[]) ∧ Kept bp w w' ∧ Pz T bp bt cap a dep w' := by
  have hdle := h.dle
  have hc2 := h.c2
  have hf2 := h.f2
  have hst : Pz T bp bt cap a dep (w.setCell ⟨bp, 2, none⟩ (.int .i64 dep)) := h.setDep (by omega)
  go_enter Try.func58, Try.ntmps58
  go_wp2
  go_end0
  exact ⟨rfl, (Kept.refl bp w).set 2 _, by simpa using hst⟩
end Go.Proofs.Ytcedjjlflahpcaa
