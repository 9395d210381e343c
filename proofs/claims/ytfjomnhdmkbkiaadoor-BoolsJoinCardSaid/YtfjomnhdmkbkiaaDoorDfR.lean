/-
  The contract of dfa.classes and of what it hands back; part.Parts at too many sets.
-/
import Derived.Test.YtfjomnhdmkbkiaaDoorDfM
import Derived.Test.YtfjomnhdmkbkiaaDoorDfF
import Derived.RangeFuncNested
import Derived.RangeFuncBound
import Derived.RangeFuncCalls
import Derived.RangeFuncLeaves
import Derived.Shelf.Abstract
import Derived.Shelf.RegionOpen
import Derived.OwnWalkIn
import Derived.TacticsInMore
import Derived.LoopNIn
import Derived.LoopIn
namespace Go.Proofs.YtfjomnhdmkbkiaaDoor.Im
open Go.RowKit Go.Lib Go.Maps Go.Shelf
attribute [local go_sem] Oper.semAt_some

set_option maxRecDepth 100000 in
set_option maxHeartbeats 2000000 in
theorem parts_many {F : Nat → Prop} {w : World} {v : Value} {l : List Se} (hl : SetsIn F w v l) (hs : 1024 < l.length) :
    Calls Tryd.prog 38 #[v] w fun e w' => e = .returned (.tuple #[.slice none 0 0, .int .i64 2]) ∧ w' = w := by
  obtain ⟨ad, cp, rfl, hm, _⟩ := hl
  unfold maxLen at hm
  have hs' : (1024 : Int) < (l.length : Int) := by omega
  clear hs
  go_enter Tryd.func38, Tryd.ntmps38
  go_wp2
  go_ret2
  exact ⟨rfl, rfl⟩
set_option maxRecDepth 100000 in
set_option maxHeartbeats 2000000 in
theorem classes_any (v : Value) (hv : ∃ a n c, v = .slice a n c) (w : World) :
    Calls Tryd.prog 45 #[v] w fun e w' => e = .returned (.func (.func 79) #[] #[.pointer (some ⟨w.heap.size, 0, none⟩)]) ∧ w' = w.alloc (.cells #[v] 56) := by
  obtain ⟨a, n, c, rfl⟩ := hv
  go_enter Tryd.func45, Tryd.ntmps45
  go_wp2
  go_ret
  exact ⟨rfl, rfl⟩
abbrev Cl (m : Nat) := { c : Nat // c < m }
/-- all places of a row, in their order -/
def allC (m : Nat) : List (Cl m) := (List.finRange m).map fun i => ⟨i.1, i.2⟩
theorem allC_len (m : Nat) : (allC m).length = m := by simp [allC]
theorem allC_get {m k : Nat} (h : k < m) (h' : k < (allC m).length) : (allC m)[k] = ⟨k, h⟩ := by simp [allC]
theorem allC_succ {m k : Nat} (h : k < m) : (allC m).take (k + 1) = (allC m).take k ++ [⟨k, h⟩] := by
  rw [take_succ' _ _ (by rw [allC_len]; exact h), allC_get h]
theorem lt_of_same {w w' : World} {g : Nat} (h : g < w.heap.size) (e : w'.heap[g]? = w.heap[g]?) : g < w'.heap.size := by
  rw [Array.getElem?_eq_getElem h] at e
  exact (Array.getElem?_eq_some_iff.1 e).1
abbrev encC (p : List Se) (x : Cl p.length) : Array Value := #[.int .i64 (x.1 : Int), (p[x.1]'x.2).v]
set_option maxRecDepth 100000 in
set_option maxHeartbeats 2000000 in
/-- the closure that tells the sets one by one -/
theorem classes1_in (Fe : Fence) (n : Nat) (hf : Fe.fn 79) (hro : Fe.round = none) (hn : 1 ≤ n) (l Bs : Nat) (G : Nat → Prop) (v : Value) (p : List Se) (J Jx : List (Cl p.length) → World → Prop)
    (hY : ∀ pre x W, J pre W → pre.length < p.length → YieldAt Fe (n - 1) Tryd.prog l (encC p x) W fun e W' =>
      (e = .returned (.bool true) ∧ J (pre ++ [x]) W' ∧ ∀ g, G g → W'.heap[g]? = W.heap[g]?) ∨ (e = .returned (.bool false) ∧ Jx (pre ++ [x]) W'))
    (hJ : ∀ pre W o, J pre W → J pre (W.alloc o))
    (W : World) (hBs : W.cell? ⟨Bs, 0, none⟩ = some v) (hp : SetsIn G W v p) (hG : ∀ g, G g → g < W.heap.size) (h0 : J [] W) :
    CallsIn Fe n Tryd.prog 79 #[.func (.yield l) #[] #[], .pointer (some ⟨Bs, 0, none⟩)] W fun e W' => (∃ v, e = .returned v) ∧
      ((∃ ys, ys = (allC p.length).take p.length ∧ J ys W') ∨ (∃ pre, (∃ k, k ≤ p.length ∧ pre = (allC p.length).take k) ∧ Jx pre W')) := by
  have HP := hid hp
  obtain ⟨ad, cp, rfl, hm, _⟩ := hp
  unfold maxLen at hm
  refine callsIn_of_wp Tryd.func79 rfl hf ?_ hro
  simp only [Tryd.ntmps79, List.size_toArray, List.length_cons, List.length_nil, Nat.reduceAdd, Nat.reduceSub, Array.replicate_succ, Array.replicate_zero, List.push_toArray, List.append_toArray, List.nil_append, List.cons_append]
  gi_wp2
  gi_loopw [7] (fun i wr => ∃ k : Nat, k ≤ p.length ∧ i = .int .i64 k ∧ J ((allC p.length).take k) wr ∧ (∀ g, G g → wr.heap[g]? = W.heap[g]?))
    (fun i _ => p.length - (intOf i).toNat)
  case atStart => exact ⟨0, Nat.zero_le _, rfl, h0, fun _ _ => rfl⟩
  case round =>
    obtain ⟨k, hk, rfl, hJs, hsame⟩ := hrel
    by_cases hlt : k < p.length
    · obtain ⟨g, off, rfl, hFg, c0, c1, c2, c3⟩ := (SetsIn.frame HP.out (w' := wr) (F' := G) (fun _ h => h) (fun q hq _ => hsame q hq)).at' hlt
      have HTK := hid (allC_succ hlt)
      obtain ⟨fn, tmps, assign, body, hy, hR⟩ := hY _ ⟨k, hlt⟩ (wr.alloc (.cells (p[k]'hlt).cs 65)) (hJ _ _ _ hJs) (by rw [List.length_take, allC_len]; omega)
      have HS := hid hsame
      have HSZ := hid (fun q (hq : G q) => lt_of_same (hG q hq) (hsame q hq))
      obtain ⟨s, hs⟩ : ∃ s, s = p[k]'hlt := ⟨_, rfl⟩
      dsimp only [encC] at hy
      rw [← hs] at hy c0 c1 c2 c3 hR
      clear hsame hs
      gi_wp2
      refine hR.mono ?_
      rintro e W3 (⟨rfl, hJ3, hk3⟩ | ⟨rfl, hJx3⟩)
      · gi_wp2
        go_roundw
        case rel => exact ⟨k + 1, by omega, by go_num, by rw [HTK.out]; exact hJ3, fun q hq => (hk3 q hq).trans ((alloc_old (HSZ.out q hq)).trans (HS.out q hq))⟩
        case measure => simp [intOf]; omega
      · gi_wp2
        refine bodyPost_ret (results_none rfl _ _ _) rfl ?_
        exact ⟨⟨_, rfl⟩, .inr ⟨_, ⟨k + 1, by omega, HTK.out.symm⟩, hJx3⟩⟩
    · obtain rfl : k = p.length := by omega
      gi_wp2
      go_end0
      exact ⟨⟨_, rfl⟩, .inl ⟨_, rfl, hJs⟩⟩
abbrev KpC (G : Nat → Prop) (W W' : World) : Prop := ∀ g, G g → W'.heap[g]? = W.heap[g]?
theorem classes_stops {n : Nat} (hn : 1 ≤ n) {Bs : Nat} {G : Nat → Prop} {v : Value} {p : List Se} {w : World} (hc : w.cell? ⟨Bs, 0, none⟩ = some v) (hp : SetsIn G w v p) (hG : ∀ g, G g → g < w.heap.size) :
    SeqStopsK Fence.wide n Tryd.prog 79 #[.pointer (some ⟨Bs, 0, none⟩)] (encC p) (KpC G) (fun ys => ys = allC p.length) (fun pre => ∃ k, k ≤ p.length ∧ pre = (allC p.length).take k) p.length w := fun l J Jx W hW hJ _ hY h0 => by
  have hc' := (hW.cell (p := ⟨Bs, 0, none⟩) (World.block_lt_of_cell? w _ hc)).trans hc
  refine (classes1_in Fence.wide n trivial rfl hn l Bs G v p J Jx hY (fun pre W o h => ?_) W hc' (SetsIn.frame hp (fun _ h => h) (fun g hg _ => hW.block g (hG g hg))) (fun g hg => Nat.lt_of_lt_of_le (hG g hg) hW.size) h0).mono ?_
  · exact hJ pre W _ none h (World.grownBy_alloc W o none) (fun r e => by cases e)
  · rintro e W' ⟨he, ⟨ys, rfl, hj⟩ | ⟨pre, ⟨k, hk, rfl⟩, hj⟩⟩
    · exact ⟨he, .inl ⟨_, List.take_of_length_le (by rw [allC_len]; exact Nat.le_refl _), hj⟩⟩
    · exact ⟨he, .inr ⟨_, ⟨k, hk, rfl⟩, hj⟩⟩
end Go.Proofs.YtfjomnhdmkbkiaaDoor.Im
