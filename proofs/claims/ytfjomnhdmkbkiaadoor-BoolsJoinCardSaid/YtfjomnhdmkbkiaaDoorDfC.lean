/-
  Maps from keys to their places in a row of keys (each once): look-up and store at the operation; sets of keys. Over any program.
-/
import Derived.Maps.OwnSet
import Derived.WalkKit
namespace Go.Proofs.YtfjomnhdmkbkiaaDoor.Im
open Go.Maps

theorem idx_old {κ : Type} [DecidableEq κ] {ks : List κ} {x y : κ} (h : y ∈ ks) : (ks ++ [x]).idxOf y = ks.idxOf y := by
  rw [List.idxOf_append, if_pos h]
theorem idx_new {κ : Type} [DecidableEq κ] {ks : List κ} {x : κ} (h : x ∉ ks) : (ks ++ [x]).idxOf x = ks.length := by
  rw [List.idxOf_append, if_neg h]; simp
/-- block b is a map from the keys ks to their places -/
def PlacesAt {κ : Type} [DecidableEq κ] (P : Program) (K E : TypeId) (enc : κ → Value) (w : World) (b : Nat) (ks : List κ) : Prop :=
  ∃ D : DataW Unit, w.ownsMap P K (plainElem P E) b ks.length D ∧ IsMap D ∧ ∀ x l, keyOf P K (enc x) = some l → has D l = decide (x ∈ ks) ∧ (x ∈ ks → D.atKey l (.lit (.int .i64 0)) = .lit (.int .i64 (ks.idxOf x)))
theorem PlacesAt.made {κ : Type} [DecidableEq κ] (P : Program) (K E : TypeId) (enc : κ → Value) (w : World) : PlacesAt P K E enc (w.alloc (.map #[] 0)) w.heap.size [] :=
  ⟨_, World.ownsMap_made w P K (plainElem P E), isMap_empty, fun x l _ => ⟨by simp [has], fun h => by simp at h⟩⟩
theorem PlacesAt.lt {κ : Type} [DecidableEq κ] {P : Program} {K E : TypeId} {enc : κ → Value} {w : World} {b : Nat} {ks : List κ} (h : PlacesAt P K E enc w b ks) : b < w.heap.size := by
  obtain ⟨D, h1, _⟩ := h; exact h1.lt
theorem PlacesAt.block {κ : Type} [DecidableEq κ] {P : Program} {K E : TypeId} {enc : κ → Value} {w w' : World} {b : Nat} {ks : List κ} (h : PlacesAt P K E enc w b ks) (hb : w'.heap[b]? = w.heap[b]?) : PlacesAt P K E enc w' b ks := by
  obtain ⟨D, ⟨es, clock, h1, h2⟩, h3⟩ := h
  exact ⟨D, ⟨es, clock, hb.trans h1, h2⟩, h3⟩
theorem PlacesAt.notRow {κ : Type} [DecidableEq κ] {P : Program} {K E : TypeId} {enc : κ → Value} {w : World} {b : Nat} {ks : List κ} (h : PlacesAt P K E enc w b ks) {cs : Array Value} {T : TypeId} {x : Nat × Nat} {g : Nat} (hg : w.heap[g]? = some (.cells cs T x)) : g ≠ b := by
  obtain ⟨D, ⟨es, clock, h1, _⟩, _⟩ := h
  rintro rfl
  rw [h1] at hg
  cases hg
section
variable {κ : Type} [DecidableEq κ] {P : Program} (w : World) {ops : Array Oper} {rest : List Oper} {o : Oper} {a : Act} {Q : Exit → Act → World → Prop}
theorem wpList_place_yes (hg : o.guard = none) (m x : Operand) (t : TypeId) (hop : o.op = Op.lookup t m x true) (K E : TypeId) (law : Keyed P K) (ht : P.underlying t = some (.map K E)) (he : P.underlying E = some (.int .i64)) (hz : (zeroValue E).run P w = .ok (.int .i64 0) w)
    (enc : κ → Value) (b : Nat) (ks : List κ) (hm : a.eval m = .map (some b)) (hown : PlacesAt P K E enc w b ks) (y : κ) (l : Lit) (hx : a.eval x = enc y) (hkey : keyOf P K (enc y) = some l) (hy : y ∈ ks)
    (hK : wpList P ops Q rest (a.put o.dst (.tuple #[.int .i64 (ks.idxOf y), .bool true])) w) : wpList P ops Q (o :: rest) a w := by
  obtain ⟨D, h1, _, h3⟩ := hown
  refine wpList_lookup_own_ok_int w hg m x t hop K E .i64 law ht he hz b _ D hm h1 (enc y) l hx hkey fun c hc _ => ?_
  have e1 := (h3 y l hkey).1
  have e2 := (h3 y l hkey).2 hy
  rw [hc] at e2
  cases e2
  rw [e1, decide_eq_true hy]
  exact hK
theorem wpList_place_no (hg : o.guard = none) (m x : Operand) (t : TypeId) (hop : o.op = Op.lookup t m x true) (K E : TypeId) (law : Keyed P K) (ht : P.underlying t = some (.map K E)) (he : P.underlying E = some (.int .i64)) (hz : (zeroValue E).run P w = .ok (.int .i64 0) w)
    (enc : κ → Value) (b : Nat) (ks : List κ) (hm : a.eval m = .map (some b)) (hown : PlacesAt P K E enc w b ks) (y : κ) (l : Lit) (hx : a.eval x = enc y) (hkey : keyOf P K (enc y) = some l) (hy : y ∉ ks)
    (hK : wpList P ops Q rest (a.put o.dst (.tuple #[.int .i64 0, .bool false])) w) : wpList P ops Q (o :: rest) a w := by
  obtain ⟨D, h1, _, h3⟩ := hown
  refine wpList_lookup_own_ok_int w hg m x t hop K E .i64 law ht he hz b _ D hm h1 (enc y) l hx hkey fun c hc _ => ?_
  have e1 := (h3 y l hkey).1
  rw [decide_eq_false hy] at e1
  rw [atKey_of_not_has e1] at hc
  cases hc
  rw [e1]
  exact hK
/-- is the key there; its place, or nought -/
def hasK (ks : List κ) (y : κ) : Bool := decide (y ∈ ks)
def idxK (ks : List κ) (y : κ) : Nat := if y ∈ ks then ks.idxOf y else 0
theorem hasK_yes {ks : List κ} {y : κ} (h : y ∈ ks) : hasK ks y = true := by unfold hasK; exact decide_eq_true h
theorem hasK_no {ks : List κ} {y : κ} (h : y ∉ ks) : hasK ks y = false := by unfold hasK; exact decide_eq_false h
theorem idxK_yes {ks : List κ} {y : κ} (h : y ∈ ks) : idxK ks y = ks.idxOf y := by unfold idxK; rw [if_pos h]
theorem wpList_place_any (hg : o.guard = none) (m x : Operand) (t : TypeId) (hop : o.op = Op.lookup t m x true) (K E : TypeId) (law : Keyed P K) (ht : P.underlying t = some (.map K E)) (he : P.underlying E = some (.int .i64)) (hz : (zeroValue E).run P w = .ok (.int .i64 0) w)
    (enc : κ → Value) (b : Nat) (ks : List κ) (hm : a.eval m = .map (some b)) (hown : PlacesAt P K E enc w b ks) (y : κ) (l : Lit) (hx : a.eval x = enc y) (hkey : keyOf P K (enc y) = some l)
    (hK : wpList P ops Q rest (a.put o.dst (.tuple #[.int .i64 (idxK ks y), .bool (hasK ks y)])) w) : wpList P ops Q (o :: rest) a w := by
  by_cases hy : y ∈ ks
  · refine wpList_place_yes w hg m x t hop K E law ht he hz enc b ks hm hown y l hx hkey hy ?_
    unfold idxK hasK at hK
    rw [if_pos hy, decide_eq_true hy] at hK
    exact hK
  · refine wpList_place_no w hg m x t hop K E law ht he hz enc b ks hm hown y l hx hkey hy ?_
    unfold idxK hasK at hK
    rw [if_neg hy, decide_eq_false hy] at hK
    exact hK
theorem wpList_place_put (hg : o.guard = none) (m x v : Operand) (t : TypeId) (hop : o.op = Op.mapUpdate t m x v) (K E : TypeId) (law : Keyed P K) (ht : P.underlying t = some (.map K E)) (he : P.underlying E = some (.int .i64))
    (enc : κ → Value) (hinj : ∀ x y, enc x = enc y → x = y) (b : Nat) (ks : List κ) (hm : a.eval m = .map (some b)) (hown : PlacesAt P K E enc w b ks) (hn : ks.length < maxLen) (y : κ) (l : Lit) (hx : a.eval x = enc y) (hv : a.eval v = .int .i64 (ks.length : Int)) (hkey : keyOf P K (enc y) = some l) (hy : y ∉ ks)
    (hK : ∀ w', PlacesAt P K E enc w' b (ks ++ [y]) → w.mapTurned w' b → wpList P ops Q rest (a.put o.dst undef) w') : wpList P ops Q (o :: rest) a w := by
  obtain ⟨D, h1, h2, h3⟩ := hown
  refine wpList_mapUpdate_in w hg m x v t hop K E law ht (plainElem P E) b _ D hm h1 hn (enc y) _ l hx hv hkey (.lit (.int .i64 (ks.length : Int))) [] (plainElem_int he (WalkArith.wf_i64 (by unfold maxLen at hn; omega))) fun w' g1 g2 => hK w' ⟨_, by rw [List.length_append]; exact g1, h2.put _ _, fun z l' hl' => ?_⟩ g2
  by_cases e : z = y
  · subst e
    rw [hkey] at hl'
    cases hl'
    refine ⟨?_, fun _ => ?_⟩
    · rw [has_put_same h2 (law.key hkey)]; simp
    · rw [atKey_put_same h2 (law.key hkey), idx_new hy]
  · have hne : l' ≠ l := fun e' => e (hinj _ _ (law.inj hl' (e' ▸ hkey)))
    refine ⟨?_, fun hz => ?_⟩
    · rw [has_put_other hne, (h3 z l' hl').1]; simp [e]
    · have hz' : z ∈ ks := by simpa [e] using hz
      rw [atKey_put_other hne, (h3 z l' hl').2 hz', idx_old hz']
end
/-- texts as keys -/
abbrev txtV (l : List UInt8) : Value := .string ⟨l.toArray⟩
theorem txtV_inj (x y : List UInt8) (h : txtV x = txtV y) : x = y := by
  have h1 : (⟨x.toArray⟩ : ByteArray) = ⟨y.toArray⟩ := by injection h
  have h2 : x.toArray = y.toArray := by injection h1
  exact congrArg Array.toList h2
theorem own_mono {w : World} {base base' e size n : Nat} {v : Value} {xs : List Value} (h : w.ownsRow base e size v n xs) (hb : base' ≤ base) : w.ownsRow base' e size v n xs := by
  refine ⟨h.1, ?_⟩
  rcases h.2 with hn | ⟨g, cap, cur, hv, hbb, rest⟩
  · exact .inl hn
  · exact .inr ⟨g, cap, cur, hv, Nat.le_trans hb hbb, rest⟩
end Go.Proofs.YtfjomnhdmkbkiaaDoor.Im
