/-
  An automaton of one way, as one of many, made one of one way again: no error, and no more states. No program in sight.
-/
import Derived.Test.YtfjomnhdmkbkiaaDoorDf6
import Derived.Test.YtfjomnhdmkbkiaaDoorDfO
import Derived.Test.YtfjomnhdmkbkiaaDoorDfT
namespace Go.Proofs.YtfjomnhdmkbkiaaDoor.Im

theorem sub_len {α : Type} [DecidableEq α] : ∀ (l m : List α), l.Nodup → (∀ x ∈ l, x ∈ m) → l.length ≤ m.length
  | [], _, _, _ => Nat.zero_le _
  | x :: l, m, h, hs => by
    obtain ⟨h1, h2⟩ := List.nodup_cons.1 h
    have hx := hs x (by simp)
    have ih := sub_len l (m.erase x) h2 fun y hy => (List.mem_erase_of_ne (fun e => h1 (by rw [← e]; exact hy))).2 (hs y (by simp [hy]))
    rw [List.length_erase_of_mem hx] at ih
    have := List.length_pos_of_mem hx
    simp; omega
/-- the rows are singletons, each once -/
def Sing (N : Nat) (rows : List (List Int)) : Prop := ∃ xs : List Int, rows = xs.map (fun x => [x]) ∧ xs.Nodup ∧ ∀ x ∈ xs, 0 ≤ x ∧ x < (N : Int)
theorem Sing.len {N : Nat} {rows : List (List Int)} (h : Sing N rows) : rows.length ≤ N := by
  obtain ⟨xs, rfl, h1, h2⟩ := h
  have := sub_len xs ((List.range N).map fun (k : Nat) => (k : Int)) h1 fun x hx => by
    obtain ⟨h3, h4⟩ := h2 x hx
    exact List.mem_map.2 ⟨x.toNat, List.mem_range.2 (by omega), by omega⟩
  simpa using this
theorem Sing.at {N : Nat} {rows : List (List Int)} (h : Sing N rows) {s : Nat} (hs : s < rows.length) : ∃ x : Int, rows[s] = [x] ∧ 0 ≤ x ∧ x < (N : Int) := by
  obtain ⟨xs, rfl, h1, h2⟩ := h
  have hs' : s < xs.length := by simpa using hs
  exact ⟨xs[s], by simp, h2 _ (List.getElem_mem hs')⟩
theorem sort_one {g : Int} {l : List Int} (h1 : ∀ y, y ∈ l ↔ y = g) : sortU l = [g] := by
  have hu := up_sortU l
  have hm := fun y => (mem_sortU y l).trans (h1 y)
  generalize sortU l = m at hu hm
  match m, hu, hm with
  | [], _, hm => exact absurd ((hm g).2 rfl) (by simp)
  | [x], _, hm => rw [(hm x).1 (by simp)]
  | x :: y :: m, hu, hm =>
    have e1 := (hm x).1 (by simp)
    have e2 := (hm y).1 (by simp)
    have := (List.pairwise_cons.1 hu).1 y (by simp)
    omega
theorem put_sing {N : Nat} {rows : List (List Int)} {l : List Int} {g : Int} (h : Sing N rows) (hN : N ≤ 1023) (hg : 0 ≤ g ∧ g < (N : Int)) (hl : sortU l = [g]) : ∃ k rows', putM rows l = .ok (k, rows') ∧ Sing N rows' ∧ k < 1024 ∧ rows.length ≤ rows'.length := by
  have hlen := h.len
  unfold putM
  rw [hl]
  by_cases hm : [g] ∈ rows
  · rw [if_pos hm]
    exact ⟨_, _, rfl, h, by have := List.idxOf_lt_length_of_mem hm; omega, Nat.le_refl _⟩
  · rw [if_neg hm, if_neg (by omega)]
    refine ⟨_, _, rfl, ?_, by omega, by simp⟩
    obtain ⟨xs, rfl, h1, h2⟩ := h
    have hgx : g ∉ xs := fun hx => hm (List.mem_map.2 ⟨g, hx, rfl⟩)
    refine ⟨xs ++ [g], by simp, ?_, fun x hx => ?_⟩
    · refine List.nodup_append.2 ⟨h1, by simp, fun a ha b hb => ?_⟩
      rw [List.mem_singleton.1 hb]
      exact fun e => hgx (e ▸ ha)
    · rcases List.mem_append.1 hx with hx | hx
      · exact h2 x hx
      · rw [List.mem_singleton.1 hx]; exact hg
theorem next_sing {N : Nat} {es : List Edge} {row : List Int} (hN : N ≤ 1023) : ∀ (p : List Se) (rows : List (List Int)), Sing N rows → (∀ s ∈ p, ∃ g : Int, sortU (behindM es row s) = [g] ∧ 0 ≤ g ∧ g < (N : Int)) →
    ∃ l rows', nextM es row rows p = .ok (l, rows') ∧ Sing N rows' ∧ rows.length ≤ rows'.length
  | [], rows, h, _ => ⟨_, _, rfl, h, Nat.le_refl _⟩
  | s :: p, rows, h, hp => by
    obtain ⟨g, hg, hr⟩ := hp s (by simp)
    obtain ⟨k, rows1, e1, h1, hk, hle1⟩ := put_sing h hN hr hg
    obtain ⟨l, rows2, e2, h2, hle2⟩ := next_sing hN p rows1 h1 fun s hs => hp s (by simp [hs])
    refine ⟨(k : Int) :: l, rows2, ?_, h2, Nat.le_trans hle1 hle2⟩
    rw [nextM, e1]
    dsimp only
    rw [if_neg (by omega), e2]
theorem of_sing {N : Nat} {n : Nfa} {p : List Se} (hN : N ≤ 1023) (hb : ∀ (x : Int), 0 ≤ x → x < (N : Int) → ∀ s ∈ p, ∃ g : Int, sortU (behindM n.edges [x] s) = [g] ∧ 0 ≤ g ∧ g < (N : Int)) :
    ∀ (f s : Nat) (rows next : List (List Int)) (fin : List Bool), Sing N rows → next.length = s → s ≤ rows.length → N < f + s → ∃ next' fin', ofFrom n p f s rows next fin = .ok (next', fin') ∧ next'.length ≤ N
  | 0, s, rows, next, fin, h, hl, hs, hf => by have := h.len; omega
  | f + 1, s, rows, next, fin, h, hl, hs, hf => by
    rw [ofFrom]
    by_cases hlt : s < rows.length
    · rw [if_pos hlt]
      obtain ⟨x, hx, h0, h1⟩ := h.at hlt
      have hrow : rows.getD s [] = [x] := by rw [List.getD_eq_getElem?_getD, List.getElem?_eq_getElem hlt]; exact hx
      rw [hrow]
      obtain ⟨l, rows', e1, h2, hle⟩ := next_sing hN p rows h (hb x h0 h1)
      rw [e1]
      exact of_sing hN hb f (s + 1) rows' _ _ h2 (by simp [hl]) (by omega) (by omega)
    · rw [if_neg hlt]
      have := h.len
      exact ⟨next, fin, rfl, by omega⟩
theorem edgesOf_len (s : Nat) (row : List Int) (p : List Se) : (edgesOf s row p).length ≤ row.length := by
  have h := sub_len ((edgesOf s row p).map Edge.dst) row ?_ fun x hx => ?_
  · rwa [List.length_map] at h
  · unfold edgesOf
    rw [List.map_filterMap]
    have hr : (List.range' 0 1024).Pairwise (· ≠ ·) := List.nodup_range'
    refine List.Pairwise.filterMap _ (fun a a' hne b hb b' hb' e => ?_) hr
    simp only [Option.map_eq_some_iff] at hb hb'
    obtain ⟨e1, h1, rfl⟩ := hb
    obtain ⟨e2, h2, rfl⟩ := hb'
    split at h1
    · cases h1
    · split at h2
      · cases h2
      · cases h1
        cases h2
        exact hne (Int.ofNat.inj e)
  · obtain ⟨e, he, rfl⟩ := List.mem_map.1 hx
    obtain ⟨dst, _, h2, rfl⟩ := mem_edgesOf.1 he
    exact byM_in h2
theorem backFrom_len (d : Dfa) (p : List Se) (hr : ∀ t, (d.next.getD t []).length ≤ 20) : ∀ (k s : Nat) (ends : List Int) (es : List Edge) (ends' : List Int) (es' : List Edge), backFrom d p k s ends es = .ok (ends', es') → es'.length ≤ es.length + 20 * k
  | 0, s, ends, es, ends', es', h => by unfold backFrom at h; cases h; omega
  | k + 1, s, ends, es, ends', es', h => by
    unfold backFrom at h
    split at h
    · cases h
    · have := backFrom_len d p hr k (s + 1) _ _ ends' es' h
      have h1 := edgesOf_len s (d.next.getD s []) p
      have h2 := hr s
      rw [List.length_append] at this
      omega
/-- back, and on again -/
theorem back_again {d : Dfa} {n : Nfa} (h : backM d = .ok n) (hn : d.next.length ≤ 40) (hr : ∀ row ∈ d.next, row.length ≤ 20) : ∃ m, ofM n = .ok m ∧ m.next.length ≤ d.next.length := by
  obtain ⟨hd, hok, _⟩ := back_law h
  unfold backM at h
  rw [if_pos hd] at h
  split at h
  · cases h
  · rename_i p hp
    split at h
    · cases h
    · rename_i ends es hb
      cases h
      obtain ⟨_, _, _, hn1, _, _, _, _⟩ := dfaOk_parts hd
      obtain ⟨k1, k2, k3⟩ := backFrom_law d p _ 0 [] [] ends es hb (by simp)
      have hes : ∀ e, e ∈ es ↔ ∃ t, t < d.next.length ∧ e ∈ edgesOf t (d.next.getD t []) p := fun e => by
        rw [k2]
        constructor
        · rintro (h | ⟨t, a, b, c⟩)
          · simp at h
          · exact ⟨t, by omega, c⟩
        · rintro ⟨t, a, b⟩
          exact .inr ⟨t, Nat.zero_le _, by omega, b⟩
      have hel := backFrom_len d p (fun t => by
        by_cases ht : t < d.next.length
        · exact hr _ (getD_mem ht [])
        · rw [List.getD_eq_getElem?_getD, List.getElem?_eq_none (by omega)]; simp) _ _ _ _ _ _ hb
      have hul := unlike_len es []
      obtain ⟨ks, p', fs, g1, g2, g3⟩ := parts_law (unlikeM [] es) (by simp at hul hel; omega)
      have hbeh : ∀ (x : Int), 0 ≤ x → x < (d.next.length : Int) → ∀ s ∈ p', ∃ g : Int, sortU (behindM es [x] s) = [g] ∧ 0 ≤ g ∧ g < (d.next.length : Int) := fun x h0 h1 s _ => by
        obtain ⟨k, rfl⟩ := Int.eq_ofNat_of_zero_le h0
        have hb256 := first_lt256 s
        have hin := goM_in hd (s := (k : Int)) h0 h1 (UInt8.ofNat ((firstS s).getD 0))
        have htn : (UInt8.ofNat ((firstS s).getD 0)).toNat = (firstS s).getD 0 := by rw [UInt8.toNat_ofNat']; omega
        refine ⟨goM d k (UInt8.ofNat ((firstS s).getD 0)), sort_one fun y => ?_, hin⟩
        rw [← stepN_back hd hp hes (by omega) (UInt8.ofNat ((firstS s).getD 0)) y, mem_stepN, htn]
        unfold behindM
        simp only [List.mem_flatMap, List.mem_map, List.mem_filter, List.mem_singleton, Bool.and_eq_true, decide_eq_true_eq]
        constructor
        · rintro ⟨z, rfl, e, ⟨a, b, c⟩, rfl⟩
          exact ⟨e, a, b, c, rfl⟩
        · rintro ⟨e, a, b, c, rfl⟩
          exact ⟨_, rfl, e, ⟨a, b, c⟩, rfl⟩
      have hs0 : Sing d.next.length [sortU [0]] := ⟨[0], by simp [sortU, insU], by simp, fun x hx => by rw [List.mem_singleton.1 hx]; omega⟩
      obtain ⟨next', fin', e1, e2⟩ := of_sing (n := ⟨d.next.length, [0], ends, es⟩) (p := p') (by omega) hbeh 1026 0 [sortU [0]] [] [] hs0 rfl (Nat.zero_le _) (by omega)
      refine ⟨⟨clsOf (unlikeM [] es) ks, next', fin'⟩, ?_, e2⟩
      unfold ofM
      rw [if_pos hok, g1]
      dsimp only
      rw [g3, e1]
end Go.Proofs.YtfjomnhdmkbkiaaDoor.Im
