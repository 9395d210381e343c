/-
  What tells whether a map is right, as the reference tells it; the reference's tree. (Printed by genRq.py.)
-/
import Derived.Test.YtfljcfdfgojdoaaGreatDoorFa39
import Derived.Test.YtfljcfdfgojdoaaGreatDoorFa26
namespace Go.Proofs.YtfljcfdfgojdoaaGreatDoor.Sh.Rf
open Go.RowKit Go.Lib Go.Proofs.YtfljcfdfgojdoaaGreatDoor Go.Proofs.YtfljcfdfgojdoaaGreatDoor.Sh

def mtreeB : Nat → Mp → Bool
  | 0, _ => false
  | n + 1, .mk _ _ _ ps _ _ => ps.all (mtreeB n)
def rMapB : Nat → Mp → Bool
  | 0, _ => false
  | n + 1, .mk k r o ps mn mx => nodeM (mwOf (.mk k r o ps mn mx)) r && ps.all (rMapB n)
theorem all_and {α : Type} (p q : α → Bool) : ∀ l : List α, l.all (fun x => p x && q x) = (l.all p && l.all q)
  | [] => rfl
  | a :: l => by
    rw [List.all_cons, List.all_cons, List.all_cons, all_and p q l]
    cases p a <;> cases q a <;> cases l.all p <;> rfl
theorem mright_split : ∀ (n : Nat) (m : Mp), mrightB n m = (mtreeB n m && rMapB n m)
  | 0, m => by cases m; rfl
  | n + 1, .mk k r o ps mn mx => by
    have h : ps.all (mrightB n) = ps.all (fun x => mtreeB n x && rMapB n x) := by
      congr 1
      funext x
      exact mright_split n x
    rw [mrightB, mtreeB, rMapB, h, all_and]
    cases nodeM (mwOf (.mk k r o ps mn mx)) r <;> cases ps.all (mtreeB n) <;> cases ps.all (rMapB n) <;> rfl
def atomB (k : Int) : Bool := decide (k = 1) || (decide (k = 2) || decide (k = 3))
theorem leaf_atom (r : Re) : (leafB (rwOf r).k && okB r) = (atomB (rwOf r).k && okB r) := by
  by_cases h : okB r = true
  · rw [h, Bool.and_true, Bool.and_true]
    have h1 := okB_of h
    obtain ⟨k, x, s, ps, mn, mx⟩ := r
    unfold OkRe at h1
    have h2 := h1.1
    show leafB k = atomB k
    generalize ps.length = n at h2
    cases h2 <;> rfl
  · rw [Bool.not_eq_true] at h
    rw [h, Bool.and_false, Bool.and_false]
theorem nodeE1 (r : Re) (o : List B) (ps : List Mp) (mn mx : Int) : nodeM (mwOf (.mk 1 r o ps mn mx)) r = ((atomB (rwOf r).k && okB r) && (decide (o = []) && (decide (ps.length = 0) && (decide (mn = 0) && decide (mx = 0))))) := by
  have h : nodeM (mwOf (.mk 1 r o ps mn mx)) r = ((leafB (rwOf r).k && okB r) && (decide (o = []) && (decide (ps.length = 0) && (decide (mn = 0) && decide (mx = 0))))) := rfl
  rw [h, leaf_atom]
theorem nodeE2 (r : Re) (o : List B) (ps : List Mp) (mn mx : Int) : nodeM (mwOf (.mk 2 r o ps mn mx)) r = (((atomB (rwOf r).k && okB r) && decide (o.length ≤ 256)) && (decide (ps.length = 0) && (decide (mn = 0) && decide (mx = 0)))) := by
  have h : nodeM (mwOf (.mk 2 r o ps mn mx)) r = (((leafB (rwOf r).k && okB r) && decide (o.length ≤ 256)) && (decide (ps.length = 0) && (decide (mn = 0) && decide (mx = 0)))) := rfl
  rw [h, leaf_atom]
theorem nodeE34 (k : Int) (hk : k = 3 ∨ k = 4) (r : Re) (o : List B) (ps : List Mp) (mn mx : Int) : nodeM (mwOf (.mk k r o ps mn mx)) r = (decide (2 ≤ ps.length) && (emptyRw (rwOf r) && (decide (o = []) && (decide (mn = 0) && decide (mx = 0))))) := by
  rcases hk with rfl | rfl <;> rfl
theorem nodeE5 (r : Re) (o : List B) (ps : List Mp) (mn mx : Int) : nodeM (mwOf (.mk 5 r o ps mn mx)) r = ((decide (ps.length = 1) && ((decide (mx = -1) && (decide (mn = 0) || decide (mn = 1))) || (decide (mn = 0) && decide (mx = 1)))) && (emptyRw (rwOf r) && decide (o = []))) := by
  have h : nodeM (mwOf (.mk 5 r o ps mn mx)) r = ((decide (ps.length = 1) && ((decide (mx = -1) && (decide (mn = 0) || decide (mn = 1))) || (decide (mn = 0) && decide (mx = 1)))) && (emptyRw (rwOf r) && (decide (o = []) && true))) := rfl
  rw [h, Bool.and_true]
theorem nodeE0 (k : Int) (h1 : ¬ k = 1) (h2 : ¬ k = 2) (h3 : ¬ k = 3) (h4 : ¬ k = 4) (h5 : ¬ k = 5) (r : Re) (o : List B) (ps : List Mp) (mn mx : Int) : nodeM (mwOf (.mk k r o ps mn mx)) r = false := by
  unfold nodeM okmB mwOf
  dsimp only
  rw [if_neg h1, if_neg h2, if_neg (by omega), if_neg h5, Bool.false_and]
/-- tree, at a map -/
def TreeAt (n : Nat) (r : Mp) : Prop := ∀ (F : Nat → Prop) (y : Mw) (w : World) (j : Nat), j + n = 201 → (∀ g, F g → g < w.heap.size) → MpG F w r y →
  Calls Tryz.prog 135 #[.agg y.cs, .int .i64 j] w fun e w' => e = .returned (.bool (mtreeB n r)) ∧ Below w.heap.size w w'
set_option maxRecDepth 100000 in
set_option maxHeartbeats 4000000 in
theorem tree_zero (r : Mp) : TreeAt 0 r := by
  intro F y w j hj hFw h
  have HB := hid ((Below.refl w.heap.size w).alloc (Nat.le_refl _) (.cells y.cs 36))
  have HE := hid (show mtreeB 0 r = false by cases r; rfl)
  have hcmp : (200 : Int) < (j : Int) := by omega
  clear h hFw
  go_enter Tryz.func135, Tryz.ntmps135
  go_wp2
  go_ret
  exact ⟨bool_eq HE.out.symm, HB.out⟩
set_option maxRecDepth 100000 in
set_option maxHeartbeats 4000000 in
theorem tree_succ (N : Nat) (k : Int) (r : Re) (o : List B) (ps : List Mp) (mn mx : Int) (ih : ∀ p ∈ ps, TreeAt N p) : TreeAt (N + 1) (.mk k r o ps mn mx) := by
  intro F y w j hj hFw h
  obtain ⟨e1, e2, e3, e4, e5, hre, hlen, hps⟩ := h.open
  obtain ⟨k', yr, o', ad, n', cap, mn', mx'⟩ := y
  dsimp only at e1 e2 e3 e4 e5 hre hps
  subst k' o' n' mn' mx'
  have HPS := hid hps
  have HFW := hid hFw
  unfold maxLen at hlen
  have HB0 := hid ((Below.refl w.heap.size w).alloc (Nat.le_refl _) (.cells (Mw.cs ⟨k, yr, o, ad, ps.length, cap, mn, mx⟩) 36))
  have hblk : (w.alloc (.cells (Mw.cs ⟨k, yr, o, ad, ps.length, cap, mn, mx⟩) 36)).heap[w.heap.size]? = some (.cells (Mw.cs ⟨k, yr, o, ad, ps.length, cap, mn, mx⟩) 36 (0, 0)) := heap_alloc_new _ _
  have hsz0 : (w.alloc (.cells (Mw.cs ⟨k, yr, o, ad, ps.length, cap, mn, mx⟩) 36)).heap.size = w.heap.size + 1 := by simp
  have HBK := hid hblk
  have HR := hid (show mtreeB (N + 1) (.mk k r o ps mn mx) = ps.all (mtreeB N) from rfl)
  have IH := hid ih
  have hcmp : ¬ (200 : Int) < (j : Int) := by omega
  have HW1 := hid (show ((j : Int) + 1) = ((j + 1 : Nat) : Int) by omega)
  have HJ := hid (show j + 1 + N = 201 by omega)
  have hj2 : j ≤ 201 := by omega
  clear h ih hps hFw hblk hre hj
  go_enter Tryz.func135, Tryz.ntmps135
  go_upto_region 1 with fail
  generalize w.alloc (.cells (Mw.cs ⟨k, yr, o, ad, ps.length, cap, mn, mx⟩) 36) = W0 at *
  go_wp2
  go_loopw [5] (fun v wr => ∃ i : Nat, i ≤ ps.length ∧ v = .int .i64 i ∧ Hid (∀ p, p ∈ ps.take i → mtreeB N p = true) ∧ Hid (Below (w.heap.size + 1) W0 wr)) (fun v _ => ps.length - (RowKit.intOf v).toNat)
  case atStart => exact ⟨0, Nat.zero_le _, rfl, hid (fun p hp => by simp at hp), hid (Below.refl _ _)⟩
  case round =>
    obtain ⟨i, hi, rfl, HS, HB⟩ := hrel
    have hwr : Below w.heap.size w wr := HB0.out.trans (HB.out.mono (by omega))
    have hbk := (HB.out.block w.heap.size (by omega)).trans HBK.out
    have hsz : w.heap.size + 1 ≤ wr.heap.size := by have := HB.out.size; omega
    obtain ⟨c0, c1, c2, c3, c4, c5, c6, c7, c8, c9, c10, c11, c12, c13⟩ := fourteen_of hbk
    by_cases hlt : i < ps.length
    · have hgi : (i : Int) < (ps.length : Int) := by omega
      obtain ⟨g, off, rfl, hgF, hparts⟩ := HPS.out (by rintro rfl; simp at hlt)
      obtain ⟨z, hr1, hc⟩ := hparts.at (List.getElem?_eq_getElem hlt)
      obtain ⟨a0, a1, a2, a3, a4, a5, a6, a7, a8, a9, a10, a11, a12, a13⟩ := elem14_of (W := wr) (g := g) (o := off + i * 14) (y := z) fun j v hv => (hwr.cell (p := ⟨g, off + i * 14 + j, none⟩) (HFW.out g hgF)).trans (hc j v hv)
      have hcall := IH.out ps[i] (List.getElem_mem hlt) F _ wr (j + 1) HJ.out (fun g hg => by have := HFW.out g hg; omega) (hr1.below HFW.out hwr)
      rw [← HW1.out] at hcall
      have HTS := hid (take_snoc hlt)
      have HM := hid (List.getElem_mem hlt)
      clear hparts hc hr1 hbk
      by_cases hd : mtreeB N ps[i] = true
      · rw [hd] at hcall
        have hrelS := hid (show ∀ p, p ∈ ps.take (i + 1) → mtreeB N p = true from fun p hp => by
          rw [HTS.out] at hp
          rcases List.mem_append.1 hp with hp | hp
          · exact HS.out p hp
          · rw [List.mem_singleton.1 hp]; exact hd)
        clear hd
        go_wp2_with (go_at_call 135; refine hcall.mono ?_; clear hcall; rintro e w3 ⟨rfl, hb3⟩)
        go_roundw
        case rel => exact ⟨i + 1, by omega, by go_num, hrelS, hid (HB.out.trans (hb3.mono (by omega)))⟩
        case measure => simp [RowKit.intOf]; omega
      · rw [Bool.not_eq_true] at hd
        rw [hd] at hcall
        have HD := hid hd
        clear hd
        go_wp2_with (go_at_call 135; refine hcall.mono ?_; clear hcall; rintro e w3 ⟨rfl, hb3⟩)
        go_ret
        exact ⟨bool_eq (by rw [HR.out, (List.all_eq_false.2 ⟨_, HM.out, by rw [HD.out]; simp⟩ : ps.all (mtreeB N) = false)]), hwr.trans (hb3.mono hwr.size)⟩
    · obtain rfl : i = ps.length := by omega
      have HT := hid (show mtreeB (N + 1) (.mk k r o ps mn mx) = true by
        rw [HR.out]; exact List.all_eq_true.2 fun p hp => HS.out p (by rw [List.take_length]; exact hp))
      clear hbk hlt
      go_wp2
      go_ret
      exact ⟨bool_eq HT.out.symm, hwr⟩
theorem tree_any : ∀ (n : Nat) (r : Mp), TreeAt n r
  | 0, r => tree_zero r
  | n + 1, .mk k r o ps mn mx => tree_succ n k r o ps mn mx fun p _ => tree_any n p
end Go.Proofs.YtfljcfdfgojdoaaGreatDoor.Sh.Rf
