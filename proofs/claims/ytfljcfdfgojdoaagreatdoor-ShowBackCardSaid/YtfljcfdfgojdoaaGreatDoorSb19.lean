/-
  The contracts of kinds (a map of four functions, by their words) and of file.
-/
import Derived.Test.YtfljcfdfgojdoaaGreatDoorSb18
import Derived.Maps.Own
import Derived.WideMake
namespace Go.Proofs.YtfljcfdfgojdoaaGreatDoor
open Go.RowKit Go.Lib

abbrev fn (k : Nat) : Value := .func (.func k) #[] #[]
def kindsEs : Array MapEntry := #[⟨.string ⟨#[100, 101, 102]⟩, fn 151, 0⟩, ⟨.string ⟨#[109, 97, 112]⟩, fn 152, 1⟩, ⟨.string ⟨#[114, 117, 108, 101]⟩, fn 153, 2⟩, ⟨.string ⟨#[116, 111, 107, 101, 110]⟩, fn 154, 3⟩]
def kindsMap : Obj := .map kindsEs 4
theorem alloc_set (w : World) (o o' : Obj) : ({ w.alloc o with heap := (w.alloc o).heap.setIfInBounds w.heap.size o' } : World) = w.alloc o' := by
  cases w with
  | mk heap tape drawn os output =>
    show World.mk ((heap.push o).setIfInBounds heap.size o') _ _ _ _ = World.mk (heap.push o') _ _ _ _
    congr 1
    apply Array.ext_getElem?
    intro k
    rw [Array.getElem?_setIfInBounds]
    by_cases e : heap.size = k
    · subst e
      simp
    · rw [if_neg e, Array.getElem?_push, Array.getElem?_push, if_neg (Ne.symm e), if_neg (Ne.symm e)]
theorem run_ins (w : World) (es : Array MapEntry) (clock : Nat) (k : ByteArray) (v : Value) (hno : Instr.findNow .string (.string k) es.toList 0 = some none) :
    (Instr.mapUpdate 152 (.map (some w.heap.size)) (.string k) v).run Tryz.prog (w.alloc (.map es clock)) = .ok () (w.alloc (.map (es.push ⟨.string k, v, clock⟩) (clock + 1))) := by
  have hb : (w.alloc (.map es clock)).heap[w.heap.size]? = some (.map es clock) := heap_alloc_new w (.map es clock)
  have hc : (Instr.checkKey false 10000 9 (.string k)).run Tryz.prog (w.alloc (.map es clock)) = .ok () (w.alloc (.map es clock)) := MapKept.run_checkKey (k := .string k) Tryz.underlying9 (by simp [MapKept.IsKey]) false 9999
  simp [Instr.mapUpdate, run_underlying Tryz.underlying152, MapKept.run_getObj_map hb, hc, MapKept.run_findKey Tryz.underlying9 hno, MapKept.run_setObj_map _ hb, Result.andThen]
  exact alloc_set _ _ _
set_option maxRecDepth 100000 in
theorem kinds_any (w : World) : Calls Tryz.prog 121 #[] w fun e w' => e = .returned (.map (some w.heap.size)) ∧ w' = w.alloc kindsMap := by
  have hmm := @run_makeMap Tryz.prog
  have h1 := run_ins w #[] 0 ⟨#[100, 101, 102]⟩ (fn 151) rfl
  have h2 := run_ins w #[⟨.string ⟨#[100, 101, 102]⟩, fn 151, 0⟩] 1 ⟨#[109, 97, 112]⟩ (fn 152) rfl
  have h3 := run_ins w #[⟨.string ⟨#[100, 101, 102]⟩, fn 151, 0⟩, ⟨.string ⟨#[109, 97, 112]⟩, fn 152, 1⟩] 2 ⟨#[114, 117, 108, 101]⟩ (fn 153) rfl
  have h4 := run_ins w #[⟨.string ⟨#[100, 101, 102]⟩, fn 151, 0⟩, ⟨.string ⟨#[109, 97, 112]⟩, fn 152, 1⟩, ⟨.string ⟨#[114, 117, 108, 101]⟩, fn 153, 2⟩] 3 ⟨#[116, 111, 107, 101, 110]⟩ (fn 154) rfl
  simp at h1 h2 h3 h4
  go_enter Tryz.func121, Tryz.ntmps121
  go_wp2
  go_ret
  exact ⟨rfl, rfl⟩
def kindFn (k : Nat) : Value := if k = 1 then fn 151 else if k = 2 then fn 152 else if k = 3 then fn 153 else fn 154
theorem str_eq (s : List B) (a : Array B) : ((Value.string ⟨s.toArray⟩) = .string ⟨a⟩) ↔ s = a.toList := by
  constructor
  · intro h
    injection h with h
    simpa using congrArg (fun x : ByteArray => x.data.toList) h
  · intro h; rw [h]
theorem look_yes {W : World} {g : Nat} (hg : W.heap[g]? = some kindsMap) {s : List B} (hs : ¬ kindOf s = 0) :
    (Instr.lookup 152 (.map (some g)) (.string ⟨s.toArray⟩) true).run Tryz.prog W = .ok (.tuple #[kindFn (kindOf s), .bool true]) W := by
  have hb : W.heap[g]? = some (.map kindsEs 4) := hg
  have hc : (Instr.checkKey false 10000 9 (.string ⟨s.toArray⟩)).run Tryz.prog W = .ok () W := MapKept.run_checkKey (k := .string ⟨s.toArray⟩) Tryz.underlying9 (by simp [MapKept.IsKey]) false 9999
  have hf : ∃ i, Instr.findNow .string (.string ⟨s.toArray⟩) kindsEs.toList 0 = some (some (i, kindFn (kindOf s))) := by
    unfold kindOf at hs ⊢
    by_cases h1 : s = [100, 101, 102]
    · subst h1; exact ⟨0, rfl⟩
    · by_cases h2 : s = [109, 97, 112]
      · subst h2; exact ⟨1, rfl⟩
      · by_cases h3 : s = [114, 117, 108, 101]
        · subst h3; exact ⟨2, rfl⟩
        · by_cases h4 : s = [116, 111, 107, 101, 110]
          · subst h4; exact ⟨3, rfl⟩
          · simp [h1, h2, h3, h4] at hs
  obtain ⟨i, hf⟩ := hf
  have he : kindsEs.isEmpty = false := rfl
  simp [Instr.lookup, run_underlying Tryz.underlying152, MapKept.run_getObj_map hb, he, hc, MapKept.run_findKey Tryz.underlying9 hf, Result.andThen]
theorem look_no {W : World} {g : Nat} (hg : W.heap[g]? = some kindsMap) {s : List B} (hs : kindOf s = 0) :
    ∃ v, (Instr.lookup 152 (.map (some g)) (.string ⟨s.toArray⟩) true).run Tryz.prog W = .ok (.tuple #[v, .bool false]) W := by
  have hb : W.heap[g]? = some (.map kindsEs 4) := hg
  have hc : (Instr.checkKey false 10000 9 (.string ⟨s.toArray⟩)).run Tryz.prog W = .ok () W := MapKept.run_checkKey (k := .string ⟨s.toArray⟩) Tryz.underlying9 (by simp [MapKept.IsKey]) false 9999
  have hf : Instr.findNow .string (.string ⟨s.toArray⟩) kindsEs.toList 0 = some none := by
    unfold kindOf at hs
    simp only [beq_iff_eq] at hs
    split at hs
    · cases hs
    · split at hs
      · cases hs
      · split at hs
        · cases hs
        · split at hs
          · cases hs
          · rename_i h1 h2 h3 h4
            have e : ∀ a : Array B, ¬ s = a.toList → ((⟨s.toArray⟩ : ByteArray) == ⟨a⟩) = false := fun a ha => by
              show (s.toArray == a) = false
              rw [beq_eq_false_iff_ne]
              exact fun h => ha (by simpa using congrArg Array.toList h)
            simp [kindsEs, Instr.findNow, Instr.sameNow, e _ h1, e _ h2, e _ h3, e _ h4]
  have he : kindsEs.isEmpty = false := rfl
  have hz : (zeroValue 154).run Tryz.prog W = .ok .nilFunc W := by kernel_rfl
  exact ⟨.nilFunc, by simp [Instr.lookup, run_underlying Tryz.underlying152, MapKept.run_getObj_map hb, he, hc, MapKept.run_findKey Tryz.underlying9 hf, Result.andThen, hz]⟩
end Go.Proofs.YtfljcfdfgojdoaaGreatDoor
