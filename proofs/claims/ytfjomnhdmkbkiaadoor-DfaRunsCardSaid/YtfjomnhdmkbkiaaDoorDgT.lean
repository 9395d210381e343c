/-
  What the reference's Back makes, in plain words: the same sets, the same edges. No program in sight.
-/
import Derived.Test.YtfjomnhdmkbkiaaDoorDgP
import Derived.Test.YtfjomnhdmkbkiaaDoorDgH
import Derived.Test.YtfjomnhdmkbkiaaDoorDgK
namespace Go.Proofs.YtfjomnhdmkbkiaaDoor.Im

theorem byM_has {d : Dfa} {p : List Se} (hd : dfaOk d = true) (hp : setsOf d.cls = some p) {s : Nat} (hs : s < d.next.length) (t : Nat) (c : B) :
    hasS (byM (d.next.getD s []) p t) c.toNat = decide (goM d s c = (t : Int)) := by
  obtain ⟨i, h1, h2, h3, h4, h5⟩ := goM_cls hd hp hs c
  have hok := (setsOf_law hp).ok
  rw [Bool.eq_iff_iff, decide_eq_true_eq, has_byM hok]
  constructor
  · rintro ⟨j, a1, a2, a3, a4⟩
    have hji := (h5 j a2).1 a4
    subst hji
    rw [h4, a3]
  · intro h
    exact ⟨i, h1, h2, by rw [← h4, h], (h5 i h2).2 rfl⟩
/-- which bytes lead from s to t -/
def leadB (d : Dfa) (s t : Nat) (x : Nat) : Bool := decide (goM d s (UInt8.ofNat x) = (t : Int))
def leadL (d : Dfa) (s t : Nat) : List Bool := (List.range 256).map (leadB d s t)
theorem leadL_len (d : Dfa) (s t : Nat) : (leadL d s t).length = 256 := by unfold leadL; rw [List.length_map, List.length_range]
theorem leadL_get (d : Dfa) (s t : Nat) {x : Nat} (hx : x < 256) : (leadL d s t).getD x false = leadB d s t x := by
  unfold leadL
  rw [List.getD_eq_getElem?_getD, List.getElem?_map, List.getElem?_range hx]
  rfl
theorem byM_lead {d : Dfa} {p : List Se} (hd : dfaOk d = true) (hp : setsOf d.cls = some p) {s : Nat} (hs : s < d.next.length) (t : Nat) {x : Nat} (hx : x < 256) : hasS (byM (d.next.getD s []) p t) x = leadB d s t x := by
  have := byM_has hd hp hs t (UInt8.ofNat x)
  rw [UInt8.toNat_ofNat', Nat.mod_eq_of_lt hx] at this
  exact this
/-- the set that is made is the set of the edge -/
theorem make_byM {d : Dfa} {p : List Se} (hd : dfaOk d = true) (hp : setsOf d.cls = some p) {s : Nat} (hs : s < d.next.length) (t : Nat) {se : Se} (h : MakeAt (leadL d s t) 256 se) : se = byM (d.next.getD s []) p t :=
  Se.same h.ok (byM_ok (setsOf_law hp).ok _ t) fun x hx => by
    rw [h.has x hx, byM_lead hd hp hs t hx, leadL_get d s t hx, decide_eq_true hx, Bool.true_and]
/-- is there any byte? -/
theorem any_byM {d : Dfa} {p : List Se} (hd : dfaOk d = true) (hp : setsOf d.cls = some p) {s : Nat} (hs : s < d.next.length) (t : Nat) : ((List.range 256).any (leadB d s t) = false) ↔ byM (d.next.getD s []) p t = Se.none := by
  constructor
  · intro h
    refine Se.same (byM_ok (setsOf_law hp).ok _ t) Se.ok_none fun x hx => ?_
    rw [byM_lead hd hp hs t hx, has_none]
    have := List.any_eq_false.1 h x (List.mem_range.2 hx)
    simpa using this
  · intro h
    rw [List.any_eq_false]
    intro x hx
    have hx' := List.mem_range.1 hx
    rw [← byM_lead hd hp hs t hx', h, has_none]
    decide
theorem edgesTo_more {s : Nat} {row : List Int} {p : List Se} {N : Nat} (hN : N ≤ 1024) (h : ∀ y ∈ row, y < (N : Int)) : edgesTo s row p N = edgesOf s row p := by
  have key : ∀ j k, N ≤ k → edgesTo s row p (k + j) = edgesTo s row p k := fun j => by
    induction j with
    | zero => exact fun _ _ => rfl
    | succ j ih =>
      intro k hk
      rw [show k + (j + 1) = (k + j) + 1 by omega, edgesTo_no, ih k hk]
      by_cases hb : byM row p (k + j) = Se.none
      · exact hb
      · have := h _ (byM_in hb)
        omega
  have := key (1024 - N) N (Nat.le_refl _)
  rw [show N + (1024 - N) = 1024 by omega, edgesTo_all] at this
  exact this.symm
/-- some bytes have been asked -/
def leadTo (d : Dfa) (s t k : Nat) : List Bool := (List.range 256).map fun x => decide (x < k) && leadB d s t x
theorem leadTo_zero (d : Dfa) (s t : Nat) : leadTo d s t 0 = List.replicate 256 false := by
  unfold leadTo
  rw [List.eq_replicate_iff]
  refine ⟨by rw [List.length_map, List.length_range], fun b hb => ?_⟩
  obtain ⟨x, _, rfl⟩ := List.mem_map.1 hb
  simp
theorem leadTo_len (d : Dfa) (s t k : Nat) : (leadTo d s t k).length = 256 := by unfold leadTo; rw [List.length_map, List.length_range]
theorem leadTo_all (d : Dfa) (s t : Nat) : leadTo d s t 256 = leadL d s t := by
  unfold leadTo leadL
  refine List.map_congr_left fun x hx => ?_
  rw [decide_eq_true (List.mem_range.1 hx), Bool.true_and]
theorem mapN_get (N : Nat) (f : Nat → Bool) (i : Nat) (h : i < ((List.range N).map f).length) : ((List.range N).map f)[i] = f i := by simp
theorem leadTo_get (d : Dfa) (s t k i : Nat) (h : i < (leadTo d s t k).length) : (leadTo d s t k)[i] = (decide (i < k) && leadB d s t i) := mapN_get 256 (fun x => decide (x < k) && leadB d s t x) i h
theorem leadTo_succ (d : Dfa) (s t k : Nat) (_ : k < 256) : leadTo d s t (k + 1) = (leadTo d s t k).set k (leadB d s t k) := by
  refine List.ext_getElem (by rw [List.length_set, leadTo_len, leadTo_len]) fun i h1 h2 => ?_
  have hi : i < 256 := by rw [leadTo_len] at h1; exact h1
  rw [leadTo_get, List.getElem_set]
  by_cases e : k = i
  · subst e
    rw [if_pos rfl, (decide_eq_true (Nat.lt_succ_self k) : decide (k < k + 1) = true), Bool.true_and]
  · rw [if_neg e, leadTo_get, show decide (i < k + 1) = decide (i < k) from decide_eq_decide.2 (by omega)]
theorem anyTo_succ (d : Dfa) (s t k : Nat) : (List.range (k + 1)).any (leadB d s t) = ((List.range k).any (leadB d s t) || leadB d s t k) := by
  rw [List.range_succ, List.any_append]
  simp
end Go.Proofs.YtfjomnhdmkbkiaaDoor.Im
