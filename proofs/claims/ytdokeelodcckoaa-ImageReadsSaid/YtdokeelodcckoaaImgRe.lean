/-
  The contract of bytes.Equal; bytes as a string.
-/
import Derived.Test.YtdokeelodcckoaaImgRd
namespace Go.Proofs.Ytdokeelodcckoaa.Im
open Go.RowKit Go.Lib

theorem bytes_str {F : Nat → Prop} {w : World} {v : Value} {l : List B} (h : BytesIn F w v l) : (convert 26 9 v).run Try.prog w = .ok (.string ⟨l.toArray⟩) w := by
  obtain ⟨ad, cap, rfl, hm, hr⟩ := h
  by_cases hl : l = []
  · subst hl
    cases ad with
    | none => exact run_convert_bytes_string w _ _ _ none 0 cap Try.underlying26 Try.underlying5 Try.underlying9
    | some a => exact run_convert_bytes_back w _ _ _ a cap [] Try.underlying26 Try.underlying5 Try.underlying9 fun j hj => by simp at hj
  · obtain ⟨g, off, rfl, hF, hc⟩ := hr hl
    refine run_convert_bytes_back w _ _ _ _ _ l Try.underlying26 Try.underlying5 Try.underlying9 fun j hj => ?_
    obtain ⟨c, h1, h2⟩ := hc j hj
    rw [Addr.add_lit, h1, h2]
theorem results_cell_one {P : Program} {fn : Func} {p q : Tmp} {ty : TypeId} (h : fn.results = #[.cell p ty, .tmp q]) (tmps : Array Value) (w : World) (g : Nat) (t : TypeId) (cs : Array Value) (fr : Nat × Nat) (d : TypeDesc)
    (hp : tmps.getD p undef = .pointer (some ⟨g, 0, none⟩)) (hg : w.heap[g]? = some (.cells cs t fr))
    (hu : P.underlying ty = some d) (hd : (match d with | .struct _ | .array _ _ => true | _ => false) = true) (hi : (P.info? ty).map (·.size) = some cs.size) :
    (results fn tmps).run P w = .ok (.tuple #[.agg cs, tmps.getD q undef]) w := by
  have hp' : tmps[p]?.getD undef = .pointer (some ⟨g, 0, none⟩) := by simpa using hp
  simp [results, h, hp', asAddr, run_loadVar_row w g t ty cs fr d hg hu hd hi]
theorem list_beq (l m : List B) : (l == m) = decide (l = m) := by
  by_cases h : l = m
  · subst h; simp
  · simp [h]
set_option maxRecDepth 100000 in
set_option maxHeartbeats 1000000 in
theorem equal_any {F F' : Nat → Prop} {w : World} {v1 v2 : Value} {l m : List B} (h1 : BytesIn F w v1 l) (h2 : BytesIn F' w v2 m) :
    Calls Try.prog 31 #[v1, v2] w fun e w' => e = .returned (.bool (decide (l = m))) ∧ w' = w := by
  have c1 := bytes_str h1
  have c2 := bytes_str h2
  clear h1 h2
  go_enter Try.func31, Try.ntmps31
  go_wp2
  go_ret
  exact ⟨congrArg (fun b => Ending.returned (.bool b)) (list_beq l m), rfl⟩
end Go.Proofs.Ytdokeelodcckoaa.Im
