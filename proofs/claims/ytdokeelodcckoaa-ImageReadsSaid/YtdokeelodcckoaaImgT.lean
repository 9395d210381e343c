/-
  The contract of token.Check.
-/
import Derived.Test.YtdokeelodcckoaaImgN
import Derived.Test.YtdokeelodcckoaaImgH
import Derived.Maps.Own
import Derived.Maps.OwnOps
import Derived.Maps.OwnSet
import Derived.StringKeys
namespace Go.Proofs.Ytdokeelodcckoaa.Im
open Go.RowKit Go.Lib
open Go.Maps

/-- a row of aggregates of k cells -/
def RowK {α : Type} (k : Nat) (F : Nat → Prop) (w : World) (R : List Value → α → Prop) (v : Value) (l : List α) : Prop :=
  ∃ ad cap, v = .slice ad l.length cap ∧ l.length ≤ maxLen ∧ (l ≠ [] → ∃ g off, ad = some ⟨g, off, none⟩ ∧ F g ∧ ∀ i (h : i < l.length), ∃ cs : List Value, cs.length = k ∧ (∀ j c, cs[j]? = some c → w.cell? ⟨g, off + i * k + j, none⟩ = some c) ∧ R cs l[i])
theorem RowK.frame {α : Type} {k : Nat} {F F' : Nat → Prop} {w w' : World} {R R' : List Value → α → Prop} {v : Value} {l : List α} (h : RowK k F w R v l) (hF : ∀ g, F g → F' g) (hw : ∀ g, F g → g < w.heap.size → w'.heap[g]? = w.heap[g]?) (hR : ∀ c x, x ∈ l → R c x → R' c x) : RowK k F' w' R' v l := by
  obtain ⟨ad, cap, h1, h2, h3⟩ := h
  refine ⟨ad, cap, h1, h2, fun hl => ?_⟩
  obtain ⟨g, off, h4, h5, h6⟩ := h3 hl
  refine ⟨g, off, h4, hF g h5, fun i hi => ?_⟩
  obtain ⟨cs, h7, h8, h9⟩ := h6 i hi
  exact ⟨cs, h7, fun j c hc => (cell_heap (hw g h5 (World.block_lt_of_cell? w _ (h8 j c hc)))).trans (h8 j c hc), hR _ _ (List.getElem_mem hi) h9⟩
def ClsR (F : Nat → Prop) (w : World) (cs : List Value) (c : Cls) : Prop := ∃ x p y q z s, cs = [.string ⟨c.name.toArray⟩, .slice x c.of.cls.length p, .slice y c.of.next.length q, .slice z c.of.fin.length s] ∧ DfaIn F w (.slice x c.of.cls.length p) (.slice y c.of.next.length q) (.slice z c.of.fin.length s) c.of
abbrev ClsIn (F : Nat → Prop) (w : World) : Value → List Cls → Prop := RowK 4 F w (ClsR F w)
theorem ClsR.frame {F F' : Nat → Prop} {w w' : World} {cs : List Value} {c : Cls} (h : ClsR F w cs c) (hF : ∀ g, F g → F' g) (hw : ∀ g, F g → g < w.heap.size → w'.heap[g]? = w.heap[g]?) : ClsR F' w' cs c := by
  obtain ⟨x, p, y, q, z, s, h1, h2⟩ := h
  exact ⟨x, p, y, q, z, s, h1, h2.frame hF hw⟩
theorem ClsIn.frame {F F' : Nat → Prop} {w w' : World} {v : Value} {l : List Cls} (h : ClsIn F w v l) (hF : ∀ g, F g → F' g) (hw : ∀ g, F g → g < w.heap.size → w'.heap[g]? = w.heap[g]?) : ClsIn F' w' v l := RowK.frame h hF hw fun _ _ _ h => h.frame hF hw
theorem zeroInt (w : World) : (zeroValue 3).run Try.prog w = .ok (.int .i64 0) w := by kernel_rfl
theorem fourcells {w : World} {D : Nat} {T : TypeId} {v0 v1 v2 v3 : Value} (h : w.heap[D]? = some (.cells #[v0, v1, v2, v3] T (0, 0))) :
    w.cell? ⟨D, 0, none⟩ = some v0 ∧ w.cell? ⟨D, 1, none⟩ = some v1 ∧ w.cell? ⟨D, 2, none⟩ = some v2 ∧ w.cell? ⟨D, 3, none⟩ = some v3 :=
  ⟨cell_blk h rfl, cell_blk h rfl, cell_blk h rfl, cell_blk h rfl⟩
def NamesMap (w : World) (B k : Nat) (names : List (List Im.B)) : Prop :=
  ∃ D : DataW Unit, w.ownsMap Try.prog 9 (plainElem Try.prog 3) B k D ∧ IsMap D ∧ ∀ x : List Im.B, Maps.has D (.string x) = names.contains x

theorem NamesMap.later {w w' : World} {B k : Nat} {names : List (List Im.B)} (h : NamesMap w B k names) (hk : w'.heap[B]? = w.heap[B]?) : NamesMap w' B k names := by
  obtain ⟨D, ⟨es, cl, h1, h2⟩, h3⟩ := h
  exact ⟨D, ⟨es, cl, hk.trans h1, h2⟩, h3⟩
theorem has_put {D : DataW Unit} (hD : IsMap D) (n x : List Im.B) (d : DataW Unit) : Maps.has (D.put (.string n) d) (.string x) = (Maps.has D (.string x) || decide (x = n)) := by
  by_cases h : x = n
  · subst h
    rw [has_put_same hD (by first | trivial | exact ⟨_, rfl⟩ | simp [WideAt.IsKeyLit]) d]; simp
  · rw [has_put_other (by simp [h]) d]; simp [h]
theorem contains_snoc (l : List (List Im.B)) (n x : List Im.B) : (l ++ [n]).contains x = (l.contains x || decide (x = n)) := by
  rw [Bool.eq_iff_iff]; simp
theorem NamesMap.none (w : World) : NamesMap (w.alloc (.map #[] 0)) w.heap.size 0 [] :=
  ⟨.map [], World.ownsMap_made _ _ _ _, ⟨_, rfl⟩, fun x => rfl⟩
theorem classesOk_not (ok : List Im.B → Bool) {seen : List (List Im.B)} {c : Cls} {l : List Cls} (h : (ok c.name && !(seen.contains c.name) && dfaOk c.of) = false) : classesOk ok seen (c :: l) = false := by
  simp only [classesOk, h, Bool.false_and]

set_option maxRecDepth 100000 in
set_option maxHeartbeats 2000000 in
theorem tokCheck_any {F : Nat → Prop} {w : World} {v : Value} {l : List Cls} (hl : ClsIn F w v l) (hF : ∀ g, F g → g < w.heap.size) (hnm : ∀ c ∈ l, c.name.length ≤ 140737488351232) :
    Calls Try.prog 29 #[v] w fun e w' => e = .returned (.int .i64 (errOf (decide (l.length ≤ 64) && classesOk nameOk [] l))) ∧ Below w.heap.size w w' := by
  obtain ⟨ad, cp, rfl, hm, hr⟩ := hl
  unfold maxLen at hm
  have HR := hid hr
  have HNM := hid hnm
  have HFF := hid hF
  clear hr hnm hF
  by_cases h64 : 64 < l.length
  · have hno := hid (errOf_false (show (decide (l.length ≤ 64) && classesOk nameOk [] l) = false by simp; omega))
    have h64' : (64 : Int) < l.length := by omega
    clear h64
    go_enter Try.func29, Try.ntmps29
    go_wp2
    go_ret
    exact ⟨err_eq hno.out.symm, Below.refl _ _⟩
  · have hok := hid (show (decide (l.length ≤ 64) && classesOk nameOk [] l) = classesOk nameOk [] l by simp; omega)
    have h64' : ¬ (64 : Int) < l.length := by omega
    have hmm := @run_makeMap Try.prog
    have law := string_keyed Try.underlying9
    have LAW := hid law
    go_enter Try.func29, Try.ntmps29
    go_wp2_with fail
    clear hmm law
    go_loopw [14] (fun v wr => ∃ k : Nat, k ≤ l.length ∧ v = .int .i64 k ∧ NamesMap wr w.heap.size k ((l.take k).map (·.name)) ∧ Below w.heap.size w wr ∧ w.heap.size < wr.heap.size ∧ Hid (classesOk nameOk ((l.take k).map (·.name)) (l.drop k) = classesOk nameOk [] l)) (fun v _ => l.length - (intOf v).toNat)
    case atStart => exact ⟨0, Nat.zero_le _, rfl, NamesMap.none w, (Below.refl _ w).alloc (Nat.le_refl _) _, by simp, hid (by simp)⟩
    case round =>
      obtain ⟨k, hk, rfl, hmap, hbr, hsz, hcl⟩ := hrel
      have hk64 : k ≤ 64 := by omega
      have HM := hid hmap
      have HCL := hid hcl.out
      clear hmap hcl
      by_cases hlt : k < l.length
      · obtain ⟨g, off, rfl, hFg, hcells⟩ := HR.out (by intro e; subst e; simp at hlt)
        obtain ⟨cs, hcs, hc, x, p, y, q, z, s, rfl, hd⟩ := hcells k hlt
        have low : ∀ g, F g → g < w.heap.size → wr.heap[g]? = w.heap[g]? := fun g hg hl => hbr.block g hl
        have t0 := (cell_heap (low g hFg (HFF.out g hFg))).trans (hc 0 _ rfl)
        have t1 := (cell_heap (low g hFg (HFF.out g hFg))).trans (hc 1 _ rfl)
        have t2 := (cell_heap (low g hFg (HFF.out g hFg))).trans (hc 2 _ rfl)
        have t3 := (cell_heap (low g hFg (HFF.out g hFg))).trans (hc 3 _ rfl)
        rw [Nat.add_zero] at t0
        have HD := hid hd
        have hnl := HNM.out _ (List.getElem_mem hlt)
        have hcl1 := HCL.out
        rw [drop_cons' l k hlt] at hcl1
        have no : (nameOk l[k].name && !(((l.take k).map (·.name)).contains l[k].name) && dfaOk l[k].of) = false → Hid (errOf (decide (l.length ≤ 64) && classesOk nameOk [] l) = 1) := fun h => hid (errOf_false (hok.out.trans (hcl1.symm.trans (classesOk_not _ h))))
        have NO := hid no
        have HCL1 := hid hcl1
        clear hcells hc hd low hcl1 no
        rcases (Bool.eq_false_or_eq_true (nameOk l[k].name)).symm with hx | hx
        · have hno := NO.out (by rw [hx]; rfl)
          have HX := hid hx
          clear hx
          go_wp2_with (go_at_call 48; refine (checkName_any l[k].name _ hnl).mono ?_; rintro e w1 ⟨rfl, hb1⟩; rw [HX.out])
          go_ret
          exact ⟨err_eq hno.out.symm, (hbr.alloc (by omega) _).trans (hb1.mono (by simp; omega))⟩
        · have HKEY := hid (show keyOf Try.prog 9 (.string ⟨l[k].name.toArray⟩) = some (.string l[k].name) from Go.WideMaps.keyOf_string_mk Try.underlying9 (by unfold maxLen; simp [ByteArray.size]; omega))
          rcases Bool.eq_false_or_eq_true (((l.take k).map (·.name)).contains l[k].name) with hy | hy
          · have hno := NO.out (by rw [hx, hy]; rfl)
            have HX := hid hx
            have HDUP := hid hy
            clear hx hy
            go_wp2_with (first | (go_at_call 48; refine (checkName_any l[k].name _ hnl).mono ?_; rintro e w1 ⟨rfl, hb1⟩; rw [HX.out]; obtain ⟨b0, b1, b2, b3⟩ := fourcells ((hb1.block wr.heap.size (by simp)).trans (heap_alloc_new _ _)); have hs1 := hb1.size; simp only [World.size_alloc] at hs1; obtain ⟨D, hown, hD, hhas⟩ := HM.out.later ((hb1.block w.heap.size (by simp; omega)).trans (alloc_old hsz)); have HOWN := hid hown; have HHAS := hid hhas; have HB1 := hid hb1; clear hown hhas hb1) | (at_lookup; refine wpList_lookup_own_ok_int _ rfl _ _ 89 rfl 9 3 .i64 LAW.out Try.underlying89 Try.underlying3 (zeroInt _) w.heap.size k D rfl HOWN.out _ (.string l[k].name) rfl HKEY.out ?_; intro c hat hwc; rw [HHAS.out, HDUP.out]))
            go_ret
            exact ⟨err_eq hno.out.symm, (hbr.alloc (by omega) _).trans (HB1.out.mono (by simp; omega))⟩
          · rcases (Bool.eq_false_or_eq_true (dfaOk l[k].of)).symm with hz | hz
            · have hno := NO.out (by rw [hz]; simp)
              have HX := hid hx
              have HDUP := hid hy
              have HZ := hid hz
              clear hx hy hz
              go_wp2_with (first | (go_at_call 48; refine (checkName_any l[k].name _ hnl).mono ?_; rintro e w1 ⟨rfl, hb1⟩; rw [HX.out]; obtain ⟨b0, b1, b2, b3⟩ := fourcells ((hb1.block wr.heap.size (by simp)).trans (heap_alloc_new _ _)); have hs1 := hb1.size; simp only [World.size_alloc] at hs1; obtain ⟨D, hown, hD, hhas⟩ := HM.out.later ((hb1.block w.heap.size (by simp; omega)).trans (alloc_old hsz)); have HOWN := hid hown; have HHAS := hid hhas; have HB1 := hid hb1; clear hown hhas hb1) | (at_lookup; refine wpList_lookup_own_ok_int _ rfl _ _ 89 rfl 9 3 .i64 LAW.out Try.underlying89 Try.underlying3 (zeroInt _) w.heap.size k D rfl HOWN.out _ (.string l[k].name) rfl HKEY.out ?_; intro c hat hwc; rw [HHAS.out, HDUP.out]) | (at_mapUpdate; refine wpList_mapUpdate_own _ rfl _ _ _ 89 rfl 9 3 LAW.out Try.underlying89 _ w.heap.size k D rfl HOWN.out (by unfold maxLen; omega) _ _ (.string l[k].name) rfl rfl HKEY.out (.lit (.int .i64 k)) [] (plainElem_int Try.underlying3 (WalkArith.wf_i64 (by omega))) ?_; intro w2 hown2 hgrow2; have HOWN2 := hid hown2; have HG2 := hid hgrow2; obtain ⟨d0, d1, d2, d3⟩ := fourcells ((hgrow2.block wr.heap.size (by omega) (by intro e; have := Option.some.inj e; omega)).trans ((HB1.out.block wr.heap.size (by simp)).trans (heap_alloc_new _ _))); have hs2 := hgrow2.size; have HBW := hid (((hbr.alloc (by omega) _).trans (HB1.out.mono (by simp; omega))).grown hgrow2 (by omega) (fun j e => by have := Option.some.inj e; omega)); clear hown2 hgrow2) | (go_at_call 46; refine (dfaCheck_any (HD.out.frame (F' := F) (fun _ h => h) (fun g _ hl => HBW.out.block g hl)) (fun g hg => by have := HFF.out g hg; omega)).mono ?_; rintro e w3 ⟨rfl, hb3⟩; rw [HZ.out, errOf_false rfl]))
              go_ret
              exact ⟨err_eq hno.out.symm, HBW.out.trans (hb3.mono (by omega))⟩
            · have hnext := hid (HCL1.out.symm.trans (show classesOk nameOk ((l.take k).map (·.name)) (l[k] :: l.drop (k + 1)) = classesOk nameOk ((l.take (k + 1)).map (·.name)) (l.drop (k + 1)) by
                rw [take_succ' _ _ hlt]
                simp only [classesOk, hx, hy, hz, List.map_append, List.map_cons, List.map_nil]
                rfl))
              have HX := hid hx
              have HDUP := hid hy
              have HZ := hid hz
              clear hx hy hz
              go_wp2_with (first | (go_at_call 48; refine (checkName_any l[k].name _ hnl).mono ?_; rintro e w1 ⟨rfl, hb1⟩; rw [HX.out]; obtain ⟨b0, b1, b2, b3⟩ := fourcells ((hb1.block wr.heap.size (by simp)).trans (heap_alloc_new _ _)); have hs1 := hb1.size; simp only [World.size_alloc] at hs1; obtain ⟨D, hown, hD, hhas⟩ := HM.out.later ((hb1.block w.heap.size (by simp; omega)).trans (alloc_old hsz)); have HOWN := hid hown; have HHAS := hid hhas; have HB1 := hid hb1; clear hown hhas hb1) | (at_lookup; refine wpList_lookup_own_ok_int _ rfl _ _ 89 rfl 9 3 .i64 LAW.out Try.underlying89 Try.underlying3 (zeroInt _) w.heap.size k D rfl HOWN.out _ (.string l[k].name) rfl HKEY.out ?_; intro c hat hwc; rw [HHAS.out, HDUP.out]) | (at_mapUpdate; refine wpList_mapUpdate_own _ rfl _ _ _ 89 rfl 9 3 LAW.out Try.underlying89 _ w.heap.size k D rfl HOWN.out (by unfold maxLen; omega) _ _ (.string l[k].name) rfl rfl HKEY.out (.lit (.int .i64 k)) [] (plainElem_int Try.underlying3 (WalkArith.wf_i64 (by omega))) ?_; intro w2 hown2 hgrow2; have HOWN2 := hid hown2; have HG2 := hid hgrow2; obtain ⟨d0, d1, d2, d3⟩ := fourcells ((hgrow2.block wr.heap.size (by omega) (by intro e; have := Option.some.inj e; omega)).trans ((HB1.out.block wr.heap.size (by simp)).trans (heap_alloc_new _ _))); have hs2 := hgrow2.size; have HBW := hid (((hbr.alloc (by omega) _).trans (HB1.out.mono (by simp; omega))).grown hgrow2 (by omega) (fun j e => by have := Option.some.inj e; omega)); clear hown2 hgrow2) | (go_at_call 46; refine (dfaCheck_any (HD.out.frame (F' := F) (fun _ h => h) (fun g _ hl => HBW.out.block g hl)) (fun g hg => by have := HFF.out g hg; omega)).mono ?_; rintro e w3 ⟨rfl, hb3⟩; rw [HZ.out, errOf_true rfl]))
              go_roundw
              case rel =>
                refine ⟨k + 1, by omega, by go_num, ?_, HBW.out.trans (hb3.mono (by omega)), by have := hb3.size; omega, hid hnext.out.symm⟩
                refine NamesMap.later (w := w2) ⟨_, HOWN2.out, hD.put _ _, fun x => ?_⟩ (hb3.block _ (by omega))
                rw [has_put hD, HHAS.out, take_succ' _ _ hlt, List.map_append, List.map_singleton, contains_snoc]
              case measure => simp [intOf]; omega
      · obtain rfl : k = l.length := by omega
        have hyes := hid (errOf_true (hok.out.trans (HCL.out.symm.trans (show _ = true by rw [List.drop_length]; rfl))))
        clear HCL
        go_wp2
        go_ret
        exact ⟨err_eq hyes.out.symm, hbr⟩
end Go.Proofs.Ytdokeelodcckoaa.Im
