/-
  Laws for ParseItems' walk: append of a slice of items, of none too; how many items a file says.
-/
import Derived.Test.YtcedjjlflahpcaaItmW
namespace Go.Proofs.Ytcedjjlflahpcaa
open Go.RowKit Go.Lib

theorem ReadsPost.err {s : ByteArray} {w w' : World} {X : Except (Int × Int) (List It)} {ad : Option Addr} {k n : Nat} {p y : Int} (h : ReadsPost s w X (.returned (.tuple #[.slice ad k n, .int .i64 p, .int .i64 y])) w') {p' y' : Int} (hx : X = .error (p', y')) : y = y' := by
  have := (h.bad hx).2
  simp at this
  exact this.2.2
theorem ReadsPost.okv {s : ByteArray} {w w' : World} {X : Except (Int × Int) (List It)} {ad : Option Addr} {k n : Nat} {p y : Int} (h : ReadsPost s w X (.returned (.tuple #[.slice ad k n, .int .i64 p, .int .i64 y])) w') {l : List It} (hx : X = .ok l) : y = 0 ∧ k = l.length ∧ Its w.heap.size w' l (.slice ad k n) := by
  obtain ⟨_, ad', n', e, hi⟩ := h.good hx
  simp at e
  obtain ⟨⟨rfl, rfl, rfl⟩, _, rfl⟩ := e
  exact ⟨rfl, rfl, hi⟩
theorem file_few {T : List Tok} {dep : Nat} : ∀ (f : Nat) (l : List It) (a : Nat) (r : List It) (a1 : Nat), l.length ≤ 256 → fileLoop T dep f l a = .ok (r, a1) → r.length ≤ 256
  | 0, _, _, _, _, _, h => by rw [fileLoop] at h; cases h
  | f + 1, l, a, r, a1, hl, h => by
    rw [fileLoop] at h
    split at h
    · split at h
      · cases h
      · rename_i h256
        split at h
        · cases h
        · split at h
          · cases h
          · rcases h3 : itemM (kindOf (tokAt T a).text) T (a + 1) dep with e | ⟨x, a'⟩
            · rw [h3] at h; cases h
            · rw [h3] at h
              simp only at h
              split at h
              · exact file_few f (l ++ [x]) _ r a1 (by simp; omega) h
              · cases h
    · cases h; exact hl
theorem parseFile_few {s : ByteArray} {l : List It} (h : parseFile s = .ok l) : l.length ≤ 256 := by
  obtain ⟨_, _, T, f, a, _, hT⟩ := saidF_of h
  exact file_few f [] 0 l a (by simp) hT
theorem ItsIn.len {F : Nat → Prop} {w : World} : ∀ {l : List It} {xs : List Value}, ItsIn F w l xs → xs.length = l.length * 46 ∧ ∀ u ∈ xs, u.oneCell' = true
  | [], xs, h => by
    have : xs = [] := h
    subst this
    exact ⟨rfl, fun u hu => by cases hu⟩
  | x :: l, xs, ⟨cs, rest, e, h1, h2⟩ => by
    obtain ⟨i1, i2⟩ := h2.len
    obtain ⟨r, m, y, q, e0, _⟩ := h1.ex
    subst e
    subst e0
    refine ⟨by rw [List.length_append, i1, itC_len, List.length_cons]; omega, fun u hu => ?_⟩
    rcases List.mem_append.1 hu with hu | hu
    · exact one_of_all (itC_one _ _ _ _ _ _ _ _ _) u hu
    · exact i2 u hu
theorem ItsIn.app {F : Nat → Prop} {w : World} : ∀ {l m : List It} {xs ys : List Value}, ItsIn F w l xs → ItsIn F w m ys → ItsIn F w (l ++ m) (xs ++ ys)
  | [], m, xs, ys, h, h2 => by
    have : xs = [] := h
    subst this
    exact h2
  | x :: l, m, xs, ys, ⟨cs, rest, e, h1, h3⟩, h2 => ⟨cs, rest ++ ys, by rw [e]; simp, h1, ItsIn.app h3 h2⟩
/-- append of nothing -/
theorem run_append_zero {P : Program} (w : World) (t ty e : TypeId) (i : TypeInfo) (ht : P.underlying t = some (.slice e)) (hi : P.info? e = some i) (ad pb : Option Addr) (n cap nb : Nat) (hn : n ≤ cap) :
    (Builtin.append_ #[t, t] ty #[.slice ad n cap, .slice pb 0 nb]).run P w = .ok (.slice ad n cap) w := by
  rcases ad with _ | ad <;> rcases pb with _ | pb <;> simp [Builtin.append_, run_underlying ht, sizeOf, typeInfo, hi, Builtin.lenOf, hn, Builtin.firstCells, storeCells, loadCells, loadCellsFrom]
theorem grown_refl (w : World) (r : Option Nat) : w.grownBy w r := ⟨rfl, rfl, rfl, Nat.le_refl _, fun _ _ _ => rfl⟩
/-- append of a slice of items, of none too, under a guard that says yes -/
theorem wpList_append_its {ops : Array Oper} {rest : List Oper} {o : Oper} {a : Act} {w : World} {Q : Exit → Act → World → Prop} (x y : Operand)
    (ho : o.op = .call { callee := .builtin .append, args := #[x, y], argTypes := #[38, 38] }) (hw : Region.wanted o (yielded ops a.tmps) = true)
    (base : Nat) (g0 n cap0 : Nat) (xs : List Value) (hs : a.eval x = .slice (some ⟨g0, 0, none⟩) n cap0) (hown : w.ownsRow base 46 46 (.slice (some ⟨g0, 0, none⟩) n cap0) n xs)
    {F : Nat → Prop} {l : List It} {u : Value} (hl : ItsG F w l u) (hu : a.eval y = u) (hb : n + l.length ≤ 100000) (hbase : base ≤ w.heap.size)
    (h : ∀ g cap w' ys, w'.ownsRow base 46 46 (.slice (some ⟨g, 0, none⟩) (n + l.length) cap) (n + l.length) (xs ++ ys) → ItsIn F w l ys → w.grownBy w' (some g0) → wpList Try.prog ops Q rest (a.put o.dst (.slice (some ⟨g, 0, none⟩) (n + l.length) cap)) w') :
    wpList Try.prog ops Q (o :: rest) a w := by
  obtain ⟨i0, hi, iz0, iz1, iz2⟩ := info_parts info46'
  refine BigFrame.wpList_want hw fun K hK => ?_
  obtain ⟨ys, ho2, hF, hp⟩ := hl.own
  rcases ho2.2 with ⟨hv, h0⟩ | ⟨g, cap, cur, hv, hbg, hgg, hn, hm, hsz, htk⟩
  · have hl0 : l = [] := List.length_eq_zero_iff.1 h0
    subst hl0
    have hys : ys = [] := hp
    subst hys
    subst hv
    have hcap : n ≤ cap0 := by
      rcases hown.2 with ⟨e, _⟩ | ⟨g', cap', cur', e, _, _, hn', _⟩
      · cases e
      · cases e; exact hn'
    have hr := run_append_zero (P := Try.prog) w 38 o.type 46 i0 Try.underlying38 hi (some ⟨g0, 0, none⟩) none n cap0 0 hcap
    unfold Oper.wp execOp
    simp only [ho, resolve, invoke, builtin, Sem.run_bind, Sem.run_pure, Result.andThen_ok, List.map_toArray, List.map_cons, List.map_nil, hs, hu, hr]
    exact hK _ _ (h g0 cap0 w [] (by simpa using hown) rfl (grown_refl _ _))
  · subst hv
    by_cases hz : l.length = 0
    · have hl0 : l = [] := List.length_eq_zero_iff.1 hz
      subst hl0
      have hys : ys = [] := hp
      subst hys
      have hcap : n ≤ cap0 := by
        rcases hown.2 with ⟨e, _⟩ | ⟨g', cap', cur', e, _, _, hn', _⟩
        · cases e
        · cases e; exact hn'
      have hr := run_append_zero (P := Try.prog) w 38 o.type 46 i0 Try.underlying38 hi (some ⟨g0, 0, none⟩) (some ⟨g, 0, none⟩) n cap0 cap hcap
      have hu' : a.eval y = .slice (some ⟨g, 0, none⟩) 0 cap := hu
      unfold Oper.wp execOp
      simp only [ho, resolve, invoke, builtin, Sem.run_bind, Sem.run_pure, Result.andThen_ok, List.map_toArray, List.map_cons, List.map_nil, hs, hu', hr]
      exact hK _ _ (h g0 cap0 w [] (by simpa using hown) rfl (grown_refl _ _))
    · obtain ⟨e1, e2⟩ := hp.len
      refine wp_append_lies w x y 38 ho base 46 i0 _ 46 512 Try.underlying38 hi iz0 iz1 iz2 rfl (by decide) (.slice (some ⟨g0, 0, none⟩) n cap0) n xs hs hown ⟨g, 0, none⟩ l.length cap ys hu e1 (fun j v hv => ho2.cells (g := g) rfl j v hv) e2 (by omega) (by unfold maxLen; omega) (by omega) hbase w.heap.size rfl fun g' cap' w' b1 b2 b3 b4 => hK _ _ (h g' cap' w' ys b1 hp b2)
end Go.Proofs.Ytcedjjlflahpcaa
