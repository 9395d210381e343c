/-
  The contract of dfa.Of: any automaton of many ways whose sets are sets of words.
-/
import Derived.Test.YtfjomnhdmkbkiaaDoorDfU
namespace Go.Proofs.YtfjomnhdmkbkiaaDoor.Im
open Go.RowKit Go.Lib Go.Maps Go.Shelf

theorem of_any {F : Nat → Prop} {w : World} {s a b c : Value} {n : Nfa} (hn : NfaIn F w s a b c n) (hF : ∀ g, F g → g < w.heap.size) (hT : Tab w) (hst : ∀ e ∈ n.edges, e.st.ok) :
    Calls Tryd.prog 13 #[.agg #[s, a, b, c]] w (OfPost w (ofM n)) := by
  by_cases hok : nfaOk n = true
  · by_cases hm : 1024 < (unlikeM [] n.edges).length
    · have e : ofM n = .error 2 := by unfold ofM; rw [if_pos hok]; unfold partsM; rw [if_pos hm]
      rw [e]
      exact of_many hn hF hok hst hm
    · obtain ⟨ks, p, fs, h1, h2, h3⟩ := parts_law (unlikeM [] n.edges) (by omega)
      have hp : partFrom (unlikeM [] n.edges) 256 0 [] [] = p := by
        unfold partsM at h1
        rw [if_neg hm] at h1
        exact Except.ok.inj h1
      have e : ofM n = (match ofFrom n p 1026 0 [sortU n.starts] [] [] with | .error e => .error e | .ok (next, fin) => .ok ⟨clsOf (unlikeM [] n.edges) ks, next, fin⟩) := by
        unfold ofM
        rw [if_pos hok, h1]
        dsimp only
        rw [h3]
        cases ofFrom n p 1026 0 [sortU n.starts] [] [] <;> rfl
      rw [e]
      exact of_main hn hF hT hok hst (by omega) hp h2.few h2.ok h3
  · have hok' : nfaOk n = false := by simpa using hok
    have e : ofM n = .error 1 := by unfold ofM; rw [if_neg hok]
    rw [e]
    exact of_bad hn hF hok'
end Go.Proofs.YtfjomnhdmkbkiaaDoor.Im
