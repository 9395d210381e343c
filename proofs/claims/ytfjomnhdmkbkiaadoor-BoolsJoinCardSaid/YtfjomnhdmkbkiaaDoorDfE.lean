/-
  Rows of structs in memory; the contract of part.key.
-/
import Derived.Test.YtfjomnhdmkbkiaaDoorDfA
import Derived.OwnWalk
namespace Go.Proofs.YtfjomnhdmkbkiaaDoor.Im
open Go.RowKit Go.Lib

/-- rows of structs of k cells -/
def WideIn {α : Type} (F : Nat → Prop) (w : World) (k : Nat) (cs : α → List Value) (v : Value) (l : List α) : Prop :=
  ∃ ad cap, v = .slice ad l.length cap ∧ l.length ≤ maxLen ∧ (l ≠ [] → ∃ g off, ad = some ⟨g, off, none⟩ ∧ F g ∧ ∀ i (h : i < l.length) j, j < k → ∃ c, w.cell? ⟨g, off + i * k + j, none⟩ = some c ∧ (cs l[i])[j]? = some c)
theorem WideIn.frame {α : Type} {F F' : Nat → Prop} {w w' : World} {k : Nat} {cs : α → List Value} {v : Value} {l : List α} (h : WideIn F w k cs v l) (hF : ∀ g, F g → F' g) (hw : ∀ g, F g → g < w.heap.size → w'.heap[g]? = w.heap[g]?) : WideIn F' w' k cs v l := by
  obtain ⟨ad, cap, h1, h2, h3⟩ := h
  refine ⟨ad, cap, h1, h2, fun hl => ?_⟩
  obtain ⟨g, off, e, hg, h4⟩ := h3 hl
  refine ⟨g, off, e, hF g hg, fun i hi j hj => ?_⟩
  obtain ⟨c, hc, hr⟩ := h4 i hi j hj
  exact ⟨c, (cell_heap (hw g hg (World.block_lt_of_cell? w _ hc))).trans hc, hr⟩
abbrev Se.ls (s : Se) : List Value := [.int .u64 s.a, .int .u64 s.b, .int .u64 s.c, .int .u64 s.d]
abbrev SetsIn (F : Nat → Prop) (w : World) : Value → List Se → Prop := WideIn F w 4 Se.ls
theorem SetsIn.frame {F F' : Nat → Prop} {w w' : World} {v : Value} {l : List Se} (h : SetsIn F w v l) (hF : ∀ g, F g → F' g) (hw : ∀ g, F g → g < w.heap.size → w'.heap[g]? = w.heap[g]?) : SetsIn F' w' v l := WideIn.frame h hF hw
theorem SetsIn.at' {F : Nat → Prop} {w : World} {ad : Option Addr} {n cap : Nat} {ss : List Se} (h : SetsIn F w (.slice ad n cap) ss) {i : Nat} (hi : i < ss.length) :
    ∃ g off, ad = some ⟨g, off, none⟩ ∧ F g ∧ w.cell? ⟨g, off + i * 4, none⟩ = some (.int .u64 ss[i].a) ∧ w.cell? ⟨g, off + i * 4 + 1, none⟩ = some (.int .u64 ss[i].b) ∧ w.cell? ⟨g, off + i * 4 + 2, none⟩ = some (.int .u64 ss[i].c) ∧ w.cell? ⟨g, off + i * 4 + 3, none⟩ = some (.int .u64 ss[i].d) := by
  obtain ⟨ad', cap', h1, h2, h3⟩ := h
  cases h1
  obtain ⟨g, off, rfl, hg, h4⟩ := h3 (by intro e; subst e; simp at hi)
  obtain ⟨c0, e0, f0⟩ := h4 i hi 0 (by decide)
  obtain ⟨c1, e1, f1⟩ := h4 i hi 1 (by decide)
  obtain ⟨c2, e2, f2⟩ := h4 i hi 2 (by decide)
  obtain ⟨c3, e3, f3⟩ := h4 i hi 3 (by decide)
  cases f0; cases f1; cases f2; cases f3
  exact ⟨g, off, rfl, hg, e0, e1, e2, e3⟩
theorem sets_of_own {w : World} {base n : Nat} {v : Value} {ss : List Se} (h : w.ownsRow base 65 4 v n (flat ss)) (hn : n = ss.length) (hm : n ≤ maxLen) : SetsIn (fun g => base ≤ g ∧ g < w.heap.size) w v ss := by
  obtain ⟨ad, cap, rfl⟩ := own_shape h
  subst hn
  refine ⟨ad, cap, rfl, hm, fun hl => ?_⟩
  have h0 : 0 < ss.length := List.length_pos_iff.2 hl
  obtain ⟨g, rfl, hb, hg, _⟩ := part_at h rfl h0
  refine ⟨g, 0, rfl, ⟨hb, hg⟩, fun i hi j hj => ?_⟩
  obtain ⟨g', e, _, _, ⟨c0, c1, c2, c3⟩, _⟩ := part_at h rfl hi
  cases e
  rw [Nat.zero_add]
  obtain rfl | rfl | rfl | rfl : j = 0 ∨ j = 1 ∨ j = 2 ∨ j = 3 := by omega
  · exact ⟨_, c0, rfl⟩
  · exact ⟨_, c1, rfl⟩
  · exact ⟨_, c2, rfl⟩
  · exact ⟨_, c3, rfl⟩

abbrev bV (c : B) : Value := .int .u8 c.toNat
/-- a row of bytes of the call's own as a text -/
theorem bytes_own_str {w : World} {base n : Nat} {v : Value} {l : List B} (h : w.ownsRow base 5 1 v n (l.map bV)) (hv : ∃ ad cap, v = .slice (some ad) n cap) :
    (convert 126 9 v).run Tryd.prog w = .ok (.string ⟨l.toArray⟩) w := by
  obtain ⟨ad, cap, rfl⟩ := hv
  have hn : n = l.length := by have := h.1; simpa using this.symm
  subst hn
  rcases h.2 with ⟨e, _⟩ | ⟨g, cp, cur, e, hb, hg, _⟩
  · cases e
  · cases e
    refine run_convert_bytes_back w _ _ _ _ _ l Tryd.underlying126 Tryd.underlying5 Tryd.underlying9 fun j hj => ?_
    have := h.cellAt j (by simpa using hj)
    rw [List.getElem?_map, List.getElem?_eq_getElem hj] at this
    have e : (⟨g, 0, none⟩ : Addr).add j = ⟨g, j, none⟩ := by unfold Addr.add; split <;> simp_all
    rw [e]
    simpa using this
theorem own_byte {w : World} {base g n cap : Nat} {l : List B} (h : w.ownsRow base 5 1 (.slice (some ⟨g, 0, none⟩) n cap) n (l.map bV)) {k : Nat} (hk : k < l.length) : w.cell? ⟨g, k, none⟩ = some (bV l[k]) := by
  have hn := h.1
  rw [h.cellAt k (by simp at hn; omega), List.getElem?_map, List.getElem?_eq_getElem hk]
  rfl
def keyTo (ss : List Se) (b k : Nat) : List B := keyM (ss.take k) b ++ List.replicate (ss.length - k) 0
theorem keyTo_len (ss : List Se) (b k : Nat) (hk : k ≤ ss.length) : (keyTo ss b k).length = ss.length := by
  unfold keyTo keyM; simp; omega
theorem keyTo_all (ss : List Se) (b : Nat) : keyTo ss b ss.length = keyM ss b := by unfold keyTo; simp
theorem keyTo_yes (ss : List Se) (b k : Nat) (hk : k < ss.length) (h : hasS ss[k] b = true) : keyTo ss b (k + 1) = (keyTo ss b k).set k 1 := by
  unfold keyTo keyM
  rw [take_succ' _ _ hk, List.map_append, List.set_append_right _ _ (by simp; omega)]
  rw [show ss.length - k = (ss.length - (k + 1)) + 1 by omega, List.replicate_succ]
  simp [h, Nat.min_eq_left (Nat.le_of_lt hk)]
theorem keyTo_no (ss : List Se) (b k : Nat) (hk : k < ss.length) (h : hasS ss[k] b = false) : keyTo ss b (k + 1) = keyTo ss b k := by
  unfold keyTo keyM
  rw [take_succ' _ _ hk, List.map_append, List.append_assoc]
  rw [show ss.length - k = (ss.length - (k + 1)) + 1 by omega, List.replicate_succ]
  simp [h]
theorem infoU8 : (Tryd.prog.info? 5).map (fun i => (i.zero, i.size, i.bytes)) = some (some (.int .u8 0), 1, 1) := by kernel_rfl
theorem made_bytes (n : Nat) : (madeCells (Value.cells (.int .u8 0)) (n * 1)).toList = (List.replicate n (0 : B)).map bV := by
  rw [Nat.mul_one]
  show (madeCells #[.int .u8 0] n).toList = _
  rw [toList_madeCells_one]
  simp
theorem has_yes {s : Se} {c : B} (h : hasS s c.toNat = true) (w : World) :
    Calls Tryd.prog 63 #[s.v, .int .u8 c.toNat] w fun e w' => e = .returned (.bool true) ∧ Below w.heap.size w w' := by
  have := has_any_c s c w; rw [h] at this; exact this
theorem has_not {s : Se} {c : B} (h : hasS s c.toNat = false) (w : World) :
    Calls Tryd.prog 63 #[s.v, .int .u8 c.toNat] w fun e w' => e = .returned (.bool false) ∧ Below w.heap.size w w' := by
  have := has_any_c s c w; rw [h] at this; exact this
set_option maxRecDepth 100000 in
set_option maxHeartbeats 2000000 in
theorem key_any {F : Nat → Prop} {w : World} {v : Value} {ss : List Se} (hl : SetsIn F w v ss) (hF : ∀ g, F g → g < w.heap.size) (hs : ss.length ≤ 1024) (b : B) :
    Calls Tryd.prog 72 #[v, .int .u8 b.toNat] w fun e w' => e = .returned (.string ⟨(keyM ss b.toNat).toArray⟩) ∧ Below w.heap.size w w' := by
  have HL := hid hl
  obtain ⟨ad, cp, rfl, _, _⟩ := hl
  obtain ⟨i0, hi, hz0, hz1, hz2⟩ := info_parts infoU8
  have HI := hid hi
  have HZ := hid (And.intro hz0 (And.intro hz1 hz2))
  clear hi hz0 hz1 hz2
  generalize hn : ss.length = n at hs
  have HN := hid hn
  clear hn
  go_enter Tryd.func72, Tryd.ntmps72
  go_wp2_with (at_make; refine wpList_make_full _ rfl _ _ 126 rfl w.heap.size 5 i0 (.int .u8 0) 1 Tryd.underlying126 HI.out HZ.out.1 HZ.out.2.1 .i64 .i64 _ _ n rfl rfl rfl rfl (by rw [HZ.out.2.2]; omega) (by unfold maxLen; omega) (by simp) ?_; intro w1 hown1 hgrow1; have HO1 := hid hown1; have HG1 := hid hgrow1; clear hown1 hgrow1)
  go_loopw [13] (fun i wr => ∃ k : Nat, k ≤ n ∧ i = .int .i64 k ∧ wr.ownsRow w.heap.size 5 1 (.slice (some ⟨w.heap.size, 0, none⟩) n n) n ((keyTo ss b.toNat k).map bV) ∧ Below w.heap.size w wr) (fun i _ => n - (intOf i).toNat)
  case atStart => exact ⟨0, Nat.zero_le _, rfl, by rw [made_bytes] at HO1; rw [show keyTo ss b.toNat 0 = List.replicate n 0 by unfold keyTo keyM; rw [HN.out]; simp]; exact HO1.out, (Below.refl _ _).grown HG1.out (Nat.le_refl _) (fun q hq => by cases hq)⟩
  case round =>
    obtain ⟨k, hk, rfl, hown, hbel⟩ := hrel
    have HO := hid hown
    have HKL := hid ((keyTo_len ss b.toNat k (by rw [HN.out]; exact hk)).trans HN.out)
    clear hown
    by_cases hlt : k < n
    · have hlt' : k < ss.length := by rw [HN.out]; exact hlt
      obtain ⟨g, off, rfl, hFg, c0, c1, c2, c3⟩ := (SetsIn.frame HL.out (w' := wr) (F' := F) (fun _ h => h) (fun q hq _ => hbel.block q (hF q hq))).at' hlt'
      obtain ⟨s, hs⟩ : ∃ s, s = ss[k]'hlt' := ⟨_, rfl⟩
      rw [← hs] at c0 c1 c2 c3
      rcases Bool.eq_false_or_eq_true (hasS s b.toNat) with hh | hh
      · have HH := hid (keyTo_yes ss b.toNat k hlt' (by rw [← hs]; exact hh))
        have hc := has_yes hh
        clear hh hs hlt'
        go_wp2_with (go_at_call 63; refine (hc _).mono ?_; rintro e w2 ⟨rfl, hb2⟩; have HO2 := hid (own_after HO.out hb2); have c4 := own_byte HO2.out (show k < (keyTo ss b.toNat k).length by rw [HKL.out]; exact hlt); have f4 := HO2.out.frozenAt k)
        go_roundw
        case rel => exact ⟨k + 1, by omega, by go_num, by rw [HH.out, List.map_set]; exact (HO2.out.stored k (bV 1)).1, (hbel.trans (((Below.refl _ _).alloc (Nat.le_refl _) _).trans (hb2.mono (by simp)) |>.mono hbel.size)).setCell (Nat.le_refl _) _⟩
        case measure => simp [intOf]; omega
      · have HH := hid (keyTo_no ss b.toNat k hlt' (by rw [← hs]; exact hh))
        have hc := has_not hh
        clear hh hs hlt'
        go_wp2_with (go_at_call 63; refine (hc _).mono ?_; rintro e w2 ⟨rfl, hb2⟩)
        go_roundw
        case rel => exact ⟨k + 1, by omega, by go_num, by rw [HH.out]; exact own_after HO.out hb2, hbel.trans (((Below.refl _ _).alloc (Nat.le_refl _) _).trans (hb2.mono (by simp))  |>.mono hbel.size)⟩
        case measure => simp [intOf]; omega
    · obtain rfl : k = n := by omega
      have hcv := bytes_own_str HO.out ⟨_, _, rfl⟩
      have e := keyTo_all ss b.toNat
      rw [HN.out] at e
      have E := hid e
      clear e
      go_wp2
      go_ret
      exact ⟨by rw [E.out]; rfl, hbel⟩
end Go.Proofs.YtfjomnhdmkbkiaaDoor.Im
