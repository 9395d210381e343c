/-
  The reference's Rows. (Printed by genRows.py.)
-/
import Derived.Test.YtfljcfdfgojdoaaGreatDoorFa31
import Derived.Test.YtfljcfdfgojdoaaGreatDoorFa11
namespace Go.Proofs.YtfljcfdfgojdoaaGreatDoor.Sh.Rf
open Go.RowKit Go.Lib Go.Proofs.YtfljcfdfgojdoaaGreatDoor Go.Proofs.YtfljcfdfgojdoaaGreatDoor.Sh

abbrev OwnP (w : World) (base : Nat) (v : Value) (l : List (Nat × Nat)) : Prop := w.ownsRow base 195 2 v l.length (flatR l)
theorem OwnP.drewNAlloc {w : World} {base : Nat} {v : Value} {l : List (Nat × Nat)} (h : OwnP w base v l) (n : Nat) (o : Obj) : OwnP ((w.drewN n).alloc o) base v l :=
  ownsRow_same h fun _k _cur hk _ => alloc_old (lt_of_heap hk)
section
variable {w : World} {ops : Array Oper} {rest : List Oper} {o : Oper} {a : Act} {Q : Exit → Act → World → Prop} {K : Act → World → Prop}
theorem wp_app2 {E : Prop} (hgd : o.guard = none) (s x : Operand) (ho : o.op = .call { callee := .builtin .append, args := #[s, x], argTypes := #[193, 193] })
    (base : Nat) (v : Value) (l : List (Nat × Nat)) (hs : a.eval s = v) (hown : OwnP w base v l) (g : Nat) (r : Nat × Nat) (hx : a.eval x = .slice (some ⟨g, 0, none⟩) 1 1)
    (hg : w.heap[g]? = some (.cells #[.int .u8 r.1, .int .u8 r.2] 195 (0, 0))) (hlen : l.length ≤ 1000) (hbase : base ≤ w.heap.size)
    (h : ∀ ad cp w', OwnP w' base (.slice ad (l.length + 1) cp) (l ++ [r]) → w.grownBy w' v.ownBlock → K (a.put o.dst (.slice ad (l.length + 1) cp)) w') : if Region.wanted o (yielded ops a.tmps) = true then Oper.wp Tryz.prog o a w K Q else E := by
  rw [if_pos (by simp [Region.wanted, hgd])]
  obtain ⟨i0, hi, hz0, hz1, hz2⟩ := info_parts infoR2
  refine wp_append_own w s x 193 ho base 195 i0 (.agg #[.int .u8 0, .int .u8 0]) 2 2 Tryz.underlying193 hi hz0 hz1 hz2 rfl (by decide) v l.length (flatR l) hs hown ⟨g, 0, none⟩ 1 1 [.int .u8 r.1, .int .u8 r.2] hx rfl (two_at hg) (by simp [Value.oneCell']) (by unfold maxLen; omega) (by omega) hbase fun v' w' h2 h3 _ => ?_
  obtain ⟨ad, cp, rfl⟩ := own_shape h2
  refine h ad cp w' ?_ h3
  show w'.ownsRow _ _ _ _ (l ++ [r]).length (flatR (l ++ [r]))
  rw [flatR_snoc, List.length_append]
  exact h2
end
theorem wrap_small {x : Nat} (h : x ≤ 256) : RowKit.wrap64 (x : Int) = x := by unfold RowKit.wrap64; omega
theorem wrap_small1 {x : Nat} (h : x ≤ 256) : RowKit.wrap64 (RowKit.wrap64 (x : Int) + 1) = x + 1 := by unfold RowKit.wrap64; omega
set_option maxRecDepth 100000 in
set_option maxHeartbeats 4000000 in
theorem rowsR_any (s : Se) (hs : SeOk s) (w : World) :
    Calls Tryz.prog 170 #[s.v] w fun e w' => (∃ v, e = .returned v ∧ OwnP w' w.heap.size v (rowsTo (hasS s) 256)) ∧ Below w.heap.size w w' := by
  have HB0 := hid ((Below.refl w.heap.size w).alloc (Nat.le_refl _) (.cells s.cs 30))
  have hbx : (w.alloc (.cells s.cs 30)).heap[w.heap.size]? = some (.cells s.cs 30 (0, 0)) := heap_alloc_new _ _
  have hsz0 : (w.alloc (.cells s.cs 30)).heap.size = w.heap.size + 1 := by simp
  have hby := bytesR_any s hs (w.alloc (.cells s.cs 30))
  obtain ⟨⟨c0, c1, c2, c3⟩, _⟩ := set_box4 hbx
  clear hbx hs
  go_enter Tryz.func170, Tryz.ntmps170
  go_upto_region 1 with fail
  generalize w.alloc (.cells s.cs 30) = W0 at *
  go_upto_region 3 with (go_at_call 168; refine hby.mono ?_; clear hby; rintro e W1 ⟨⟨v1, rfl, ho1⟩, hb1⟩; have HO1 := hid ho1; have HB1 := hid (HB0.out.trans (hb1.mono (by omega))); have HS1 := hid hb1.size; clear ho1 hb1 c0 c1 c2 c3; obtain ⟨ad, cp, rfl⟩ := own_shape HO1.out)
  obtain ⟨p, hp⟩ : ∃ p, p = hasS s := ⟨_, rfl⟩
  rw [← hp] at HO1 ⊢
  obtain ⟨n, hn⟩ : ∃ n, n = (blB p 256).length := ⟨_, rfl⟩
  rw [← hn] at HO1 ⊢
  obtain ⟨B1, hB1⟩ : ∃ B1, B1 = W1.heap.size := ⟨_, rfl⟩
  have hwB : w.heap.size ≤ B1 := by rw [hB1]; exact HB1.out.size
  have HN := hid (show n = (bl p 256).length by rw [hn, blB_len])
  have HCEL := hid (show ∀ W : World, Below B1 W1 W → n ≠ 0 → ∃ g, ad = some ⟨g, 0, none⟩ ∧ g < B1 ∧ ∀ j, j < n → W.cell? ⟨g, j, none⟩ = some (.int .u8 (atB p 256 j : Nat)) from fun W hW hne => by
    have h := HO1.out
    rw [hn] at h
    rcases h.2 with ⟨_, h0⟩ | ⟨g, cap, cur, hv, _, hg, _⟩
    · exact absurd (hn.trans h0) hne
    · injection hv with e1 e2 e3
      have hgl := lt_of_heap hg
      refine ⟨g, e1, by omega, fun j hj => ?_⟩
      have hj' : j < (blB p 256).length := by omega
      have hjb : j < (bl p 256).length := by rw [← blB_len]; exact hj'
      have hc := h.cells (g := g) (by rw [e1]; rfl) j (bV (blB p 256)[j]) (by rw [List.getElem?_map, List.getElem?_eq_getElem hj']; rfl)
      rw [Addr.add_lit, Nat.zero_add] at hc
      have e8 : bV (blB p 256)[j] = .int .u8 (atB p 256 j : Nat) := by
        have e9 : (blB p 256)[j] = UInt8.ofNat (bl p 256)[j] := by simp only [blB, List.getElem_map]
        rw [e9, atB_of hjb]
        have := (bl_lt hjb).1
        show Value.int .u8 (((UInt8.ofNat (bl p 256)[j]).toNat : Nat) : Int) = _
        rw [byte_of, Nat.mod_eq_of_lt this]
      rw [← e8, ← hc]
      exact World.cell?_of_block (hW.block g (by omega)))
  have HP := hid hp
  clear hp hn HO1
  go_wp2
  go_loopw [3, 5, 6] (fun v vf vi wr => ∃ (i f cp2 : Nat) (ad2 : Option Addr), i ≤ n ∧ vi = .int .i64 i ∧ vf = .int .i64 f ∧ v = .slice ad2 (rowsTo p (atB p 256 i)).length cp2 ∧ Hid (OwnP wr B1 (.slice ad2 (rowsTo p (atB p 256 i)).length cp2) (rowsTo p (atB p 256 i))) ∧ Hid (i < n → f ≤ i ∧ startP p (atB p 256 i) = atB p 256 f) ∧ Hid (Below B1 W1 wr)) (fun _ _ vi _ => n - (RowKit.intOf vi).toNat)
  case atStart => exact ⟨0, 0, 0, none, Nat.zero_le _, rfl, rfl, by rw [rows_first]; rfl, hid (by rw [rows_first]; exact World.ownsRow_nil _ _ _ _), hid (fun h => ⟨Nat.le_refl _, start_first (by have := HN.out; omega)⟩), hid (Below.refl _ _)⟩
  case round =>
    obtain ⟨i, f, cp2, ad2, hi, rfl, rfl, rfl, HO, HF, HBW⟩ := hrel
    have hsw := HBW.out.size
    by_cases hlt : i < n
    · obtain ⟨g, rfl, hgB, hcells⟩ := HCEL.out wr HBW.out (by omega)
      obtain ⟨hfi, hst⟩ := HF.out hlt
      have hil : i < (bl p 256).length := by have := HN.out; omega
      have HLAST := hid (last_at hil)
      have HROWS := hid (rows_next hil)
      have HSTART := hid (fun h => start_next (p := p) (i := i) h)
      have HNEXT := hid (atB_next hil)
      have hcf := hcells f (by omega)
      have hci := hcells i hlt
      have HLE := hid (show atB p 256 i ≤ 256 by rw [atB_of hil]; exact Nat.le_of_lt (bl_lt hil).1)
      have hgl : g < wr.heap.size := by omega
      have hii : (i : Int) < (n : Int) := by omega
      have hff : (f : Int) < (n : Int) := by omega
      have H256 := hid (show atB p 256 i < 256 by rw [atB_of hil]; exact (bl_lt hil).1)
      have HST := hid hst
      clear hst
      have hn256 : n ≤ 256 := by rw [HN.out]; exact bl_le p 256
      have hw1 : IntKind.i64.wrap ((i : Int) + 1) = (i : Int) + 1 := by rw [IntKind.wrap_i64]; omega
      have hwb : IntKind.i64.wrap (((atB p 256 i : Nat) : Int) + 1) = ((atB p 256 i : Nat) : Int) + 1 := by rw [IntKind.wrap_i64]; have := H256.out; omega
      have ht1 : ((i : Int) + 1).toNat = i + 1 := by omega
      have h01 : (0 : Int) ≤ (i : Int) + 1 := by omega
      by_cases hend : i + 1 = n
      · have hcond : ((i : Int) + 1 == (n : Int)) = true := by simpa using (by omega : (i : Int) + 1 = (n : Int))
        have hl : lastP p (atB p 256 i) = true := by rw [HLAST.out, decide_eq_true (by have := HN.out; omega)]; rfl
        have HL := hid hl
        clear hl hcells
        have HNEW := hid (show rowsTo p (atB p 256 (i + 1)) = rowsTo p (atB p 256 i) ++ [(atB p 256 f, atB p 256 i)] by rw [HROWS.out, if_pos HL.out, HST.out])
        have HLEN := hid (show (rowsTo p (atB p 256 (i + 1))).length = (rowsTo p (atB p 256 i)).length + 1 by rw [HNEW.out, List.length_append]; rfl)
        go_upto_region 7 with fail
        go_quiet (fail)
        go_upto_region 8 with fail
        have HS := hid (show (fun W : World => W.cell? ⟨g, f, none⟩ = some (.int .u8 (atB p 256 f : Nat)) ∧ W.cell? ⟨g, i, none⟩ = some (.int .u8 (atB p 256 i : Nat))) (wr.drewN (nq + 1)) from ⟨hcf, hci⟩)
        refine wp_region_held_drew (S := (fun W : World => W.cell? ⟨g, f, none⟩ = some (.int .u8 (atB p 256 f : Nat)) ∧ W.cell? ⟨g, i, none⟩ = some (.int .u8 (atB p 256 i : Nat)))) (by kernel_rfl) HS.out (fun _ => ?_)
        refine wpAnyH_take (i := 0) (v := .slice ad2 (rowsTo p (atB p 256 i)).length cp2) rfl (by kernel_rfl) (by kernel_rfl) (by kernel_rfl) (fun _ _ _ h => h) (Or.inl ⟨by rfl, fun w hS => by go_simp⟩) HS.out ?_
        simp only [Act.put, List.getElem_toArray, List.getElem_cons_zero, List.setIfInBounds_toArray, List.set_cons_zero, List.set_cons_succ]
        refine wpAnyH_take (i := 1) (v := .slice (some ⟨g, 0, none⟩) n cp) rfl (by kernel_rfl) (by kernel_rfl) (by kernel_rfl) (fun _ _ _ h => h) (Or.inl ⟨by rfl, fun w hS => by go_simp⟩) HS.out ?_
        simp only [Act.put, List.getElem_toArray, List.getElem_cons_zero, List.getElem_cons_succ, List.setIfInBounds_toArray, List.set_cons_zero, List.set_cons_succ]
        refine wpAnyH_take (i := 2) (v := .int .i64 f) rfl (by kernel_rfl) (by kernel_rfl) (by kernel_rfl) (fun _ _ _ h => h) (Or.inl ⟨by rfl, fun w hS => by go_simp⟩) HS.out ?_
        simp only [Act.put, List.getElem_toArray, List.getElem_cons_zero, List.getElem_cons_succ, List.setIfInBounds_toArray, List.set_cons_zero, List.set_cons_succ]
        refine wpAnyH_take (i := 3) (v := .pointer (some ⟨g, f, none⟩)) rfl (by kernel_rfl) (by kernel_rfl) (by kernel_rfl) (fun _ _ _ h => h) (Or.inl ⟨by rfl, fun w hS => by go_simp⟩) HS.out ?_
        simp only [Act.put, List.getElem_toArray, List.getElem_cons_zero, List.getElem_cons_succ, List.setIfInBounds_toArray, List.set_cons_zero, List.set_cons_succ]
        refine wpAnyH_take (i := 4) (v := .int .u8 (atB p 256 f : Nat)) rfl (by kernel_rfl) (by kernel_rfl) (by kernel_rfl) (fun _ _ _ h => h) (Or.inl ⟨by rfl, fun w hS => by obtain ⟨d1, d2⟩ := hS; go_simp⟩) HS.out ?_
        simp only [Act.put, List.getElem_toArray, List.getElem_cons_zero, List.getElem_cons_succ, List.setIfInBounds_toArray, List.set_cons_zero, List.set_cons_succ]
        refine wpAnyH_take (i := 5) (v := .slice (some ⟨g, 0, none⟩) n cp) rfl (by kernel_rfl) (by kernel_rfl) (by kernel_rfl) (fun _ _ _ h => h) (Or.inl ⟨by rfl, fun w hS => by go_simp⟩) HS.out ?_
        simp only [Act.put, List.getElem_toArray, List.getElem_cons_zero, List.getElem_cons_succ, List.setIfInBounds_toArray, List.set_cons_zero, List.set_cons_succ]
        refine wpAnyH_take (i := 6) (v := .int .i64 i) rfl (by kernel_rfl) (by kernel_rfl) (by kernel_rfl) (fun _ _ _ h => h) (Or.inl ⟨by rfl, fun w hS => by go_simp⟩) HS.out ?_
        simp only [Act.put, List.getElem_toArray, List.getElem_cons_zero, List.getElem_cons_succ, List.setIfInBounds_toArray, List.set_cons_zero, List.set_cons_succ]
        refine wpAnyH_take (i := 7) (v := .pointer (some ⟨g, i, none⟩)) rfl (by kernel_rfl) (by kernel_rfl) (by kernel_rfl) (fun _ _ _ h => h) (Or.inl ⟨by rfl, fun w hS => by go_simp⟩) HS.out ?_
        simp only [Act.put, List.getElem_toArray, List.getElem_cons_zero, List.getElem_cons_succ, List.setIfInBounds_toArray, List.set_cons_zero, List.set_cons_succ]
        refine wpAnyH_take (i := 8) (v := .int .u8 (atB p 256 i : Nat)) rfl (by kernel_rfl) (by kernel_rfl) (by kernel_rfl) (fun _ _ _ h => h) (Or.inl ⟨by rfl, fun w hS => by obtain ⟨d1, d2⟩ := hS; go_simp⟩) HS.out ?_
        simp only [Act.put, List.getElem_toArray, List.getElem_cons_zero, List.getElem_cons_succ, List.setIfInBounds_toArray, List.set_cons_zero, List.set_cons_succ]
        refine wpAnyH_take (i := 9) (v := .agg #[.int .u8 (atB p 256 f : Nat), .int .u8 (atB p 256 i : Nat)]) rfl (by kernel_rfl) (by kernel_rfl) (by kernel_rfl) (fun _ _ _ h => h) (Or.inl ⟨by rfl, fun w hS => by go_simp⟩) HS.out ?_
        simp only [Act.put, List.getElem_toArray, List.getElem_cons_zero, List.getElem_cons_succ, List.setIfInBounds_toArray, List.set_cons_zero, List.set_cons_succ]
        refine wpAnyH_ready (rs := [10]) (by kernel_rfl) (by simp) (AllReadyH.cons rfl (fun K hK => ?_) AllReadyH.nil)
        go_simp
        refine hK.out _ _ ⟨(World.cell?_of_block (alloc_old hgl)).trans hcf, (World.cell?_of_block (alloc_old hgl)).trans hci⟩ (fun _ => ?_)
        clear hK K
        refine wpAnyH_ready (rs := [11]) (by kernel_rfl) (by simp) (AllReadyH.cons rfl (fun K hK => ?_) AllReadyH.nil)
        refine wp_app2 rfl (.tmp 35) (.tmp 45) rfl B1 (.slice ad2 (rowsTo p (atB p 256 i)).length cp2) (rowsTo p (atB p 256 i)) rfl (OwnP.drewNAlloc HO.out _ _) wr.heap.size (atB p 256 f, atB p 256 i) rfl (heap_alloc_new _ _) (by have := rowsTo_len p (atB p 256 i); have := HLE.out; omega) (by show B1 ≤ ((wr.drewN _).alloc _).heap.size; simp; omega) ?_
        intro ad3 cp3 w3 ho3 hg3
        have HO3 := hid ho3
        have hgn : some g ≠ (Value.slice ad2 (rowsTo p (atB p 256 i)).length cp2).ownBlock := fun e => by have := (HO.out.lt g e.symm).1; omega
        have hgb : w3.heap[g]? = wr.heap[g]? := (hg3.block g (by show g < ((wr.drewN _).alloc _).heap.size; simp; omega) (fun e => hgn e)).trans (alloc_old hgl)
        have HB3 := hid (HBW.out.trans ((((below_drewN (Below.refl B1 wr) _).alloc (by show B1 ≤ wr.heap.size; omega) _)).trans (below_grown (OwnP.drewNAlloc HO.out _ _) hg3 (by show B1 ≤ ((wr.drewN _).alloc _).heap.size; simp; omega))))
        have HS := hid (show (fun W : World => W.cell? ⟨g, f, none⟩ = some (.int .u8 (atB p 256 f : Nat)) ∧ W.cell? ⟨g, i, none⟩ = some (.int .u8 (atB p 256 i : Nat))) w3 from ⟨(World.cell?_of_block hgb).trans hcf, (World.cell?_of_block hgb).trans hci⟩)
        refine hK.out _ _ HS.out (fun _ => ?_)
        clear hK K ho3 hg3
        simp only [Act.put, List.getElem_toArray, List.getElem_cons_zero, List.getElem_cons_succ, List.setIfInBounds_toArray, List.set_cons_zero, List.set_cons_succ]
        refine wpAnyH_take (i := 12) (v := .slice ad3 ((rowsTo p (atB p 256 i)).length + 1) cp3) rfl (by kernel_rfl) (by kernel_rfl) (by kernel_rfl) (fun _ _ _ h => h) (Or.inl ⟨by rfl, fun w hS => by go_simp⟩) HS.out ?_
        simp only [Act.put, List.getElem_toArray, List.getElem_cons_zero, List.getElem_cons_succ, List.setIfInBounds_toArray, List.set_cons_zero, List.set_cons_succ]
        refine wpAnyH_done (by kernel_rfl) ?_ _
        go_wp2
        go_roundw
        case rel => exact ⟨i + 1, i + 1, cp3, ad3, by omega, by go_num, by go_num, by rw [HLEN.out], hid (by rw [HLEN.out, HNEW.out]; exact HO3.out), hid (fun h => ⟨Nat.le_refl _, absurd h (by omega)⟩), HB3⟩
        case measure => simp [RowKit.intOf]; omega
      · obtain ⟨hcn, hlt2⟩ : wr.cell? ⟨g, i + 1, none⟩ = some (.int .u8 (atB p 256 (i + 1) : Nat)) ∧ i + 1 < n := ⟨hcells (i + 1) (by omega), by omega⟩
        have hcond : ((i : Int) + 1 == (n : Int)) = false := by simpa using (by omega : ¬ (i : Int) + 1 = (n : Int))
        have hi2 : (i : Int) + 1 < (n : Int) := by omega
        have hdl : decide (i + 1 = (bl p 256).length) = false := decide_eq_false (by have := HN.out; omega)
        rw [hdl, Bool.false_or] at HLAST
        have H257 := HNEXT.out.2
        have W1' : RowKit.wrap64 ((atB p 256 (i + 1) : Nat) : Int) = ((atB p 256 (i + 1) : Nat) : Int) := wrap_small H257
        have W2' : RowKit.wrap64 (RowKit.wrap64 ((atB p 256 i : Nat) : Int) + 1) = ((atB p 256 i : Nat) : Int) + 1 := wrap_small1 HLE.out
        have HW := hid (And.intro W1' W2')
        clear hdl hcells W1' W2' H257
        by_cases hgap : atB p 256 (i + 1) = atB p 256 i + 1
        · have hc2 : (RowKit.wrap64 ((atB p 256 (i + 1) : Nat) : Int) != RowKit.wrap64 (RowKit.wrap64 ((atB p 256 i : Nat) : Int) + 1)) = false := by rw [HW.out.1, HW.out.2, hgap]; simp
          have HL := hid (show lastP p (atB p 256 i) = false by rw [HLAST.out, decide_eq_false (by simpa using hgap)])
          have HNEW := hid (show rowsTo p (atB p 256 (i + 1)) = rowsTo p (atB p 256 i) by rw [HROWS.out, if_neg (by rw [HL.out]; decide), List.append_nil])
          have HSN := hid (show i + 1 < (bl p 256).length → startP p (atB p 256 (i + 1)) = startP p (atB p 256 i) from fun h => by rw [HSTART.out h, if_neg (by rw [HL.out]; decide)])
          clear hgap
          go_upto_region 7 with fail
          go_quiet (fail)
          go_wp2
          case roundEnd => exact ⟨⟨i + 1, f, cp2, ad2, by omega, by go_num, rfl, by rw [HNEW.out], hid (by rw [HNEW.out]; exact HO.out), hid (fun h => ⟨by omega, by rw [HSN.out (by have := HN.out; omega), HST.out]⟩), hid (below_drewN HBW.out _)⟩, by simp [RowKit.intOf]; omega⟩
        · have hc2 : (RowKit.wrap64 ((atB p 256 (i + 1) : Nat) : Int) != RowKit.wrap64 (RowKit.wrap64 ((atB p 256 i : Nat) : Int) + 1)) = true := by rw [HW.out.1, HW.out.2]; simpa using (by omega : ¬ ((atB p 256 (i + 1) : Nat) : Int) = ((atB p 256 i : Nat) : Int) + 1)
          have HL := hid (show lastP p (atB p 256 i) = true by rw [HLAST.out, decide_eq_true hgap])
          have HSN := hid (show i + 1 < (bl p 256).length → startP p (atB p 256 (i + 1)) = atB p 256 (i + 1) from fun h => by rw [HSTART.out h, if_pos HL.out])
          clear hgap
          have HNEW := hid (show rowsTo p (atB p 256 (i + 1)) = rowsTo p (atB p 256 i) ++ [(atB p 256 f, atB p 256 i)] by rw [HROWS.out, if_pos HL.out, HST.out])
          have HLEN := hid (show (rowsTo p (atB p 256 (i + 1))).length = (rowsTo p (atB p 256 i)).length + 1 by rw [HNEW.out, List.length_append]; rfl)
          go_upto_region 7 with fail
          go_quiet (fail)
          go_upto_region 8 with fail
          have HS := hid (show (fun W : World => W.cell? ⟨g, f, none⟩ = some (.int .u8 (atB p 256 f : Nat)) ∧ W.cell? ⟨g, i, none⟩ = some (.int .u8 (atB p 256 i : Nat))) (wr.drewN (nq + 1)) from ⟨hcf, hci⟩)
          refine wp_region_held_drew (S := (fun W : World => W.cell? ⟨g, f, none⟩ = some (.int .u8 (atB p 256 f : Nat)) ∧ W.cell? ⟨g, i, none⟩ = some (.int .u8 (atB p 256 i : Nat)))) (by kernel_rfl) HS.out (fun _ => ?_)
          refine wpAnyH_take (i := 0) (v := .slice ad2 (rowsTo p (atB p 256 i)).length cp2) rfl (by kernel_rfl) (by kernel_rfl) (by kernel_rfl) (fun _ _ _ h => h) (Or.inl ⟨by rfl, fun w hS => by go_simp⟩) HS.out ?_
          simp only [Act.put, List.getElem_toArray, List.getElem_cons_zero, List.setIfInBounds_toArray, List.set_cons_zero, List.set_cons_succ]
          refine wpAnyH_take (i := 1) (v := .slice (some ⟨g, 0, none⟩) n cp) rfl (by kernel_rfl) (by kernel_rfl) (by kernel_rfl) (fun _ _ _ h => h) (Or.inl ⟨by rfl, fun w hS => by go_simp⟩) HS.out ?_
          simp only [Act.put, List.getElem_toArray, List.getElem_cons_zero, List.getElem_cons_succ, List.setIfInBounds_toArray, List.set_cons_zero, List.set_cons_succ]
          refine wpAnyH_take (i := 2) (v := .int .i64 f) rfl (by kernel_rfl) (by kernel_rfl) (by kernel_rfl) (fun _ _ _ h => h) (Or.inl ⟨by rfl, fun w hS => by go_simp⟩) HS.out ?_
          simp only [Act.put, List.getElem_toArray, List.getElem_cons_zero, List.getElem_cons_succ, List.setIfInBounds_toArray, List.set_cons_zero, List.set_cons_succ]
          refine wpAnyH_take (i := 3) (v := .pointer (some ⟨g, f, none⟩)) rfl (by kernel_rfl) (by kernel_rfl) (by kernel_rfl) (fun _ _ _ h => h) (Or.inl ⟨by rfl, fun w hS => by go_simp⟩) HS.out ?_
          simp only [Act.put, List.getElem_toArray, List.getElem_cons_zero, List.getElem_cons_succ, List.setIfInBounds_toArray, List.set_cons_zero, List.set_cons_succ]
          refine wpAnyH_take (i := 4) (v := .int .u8 (atB p 256 f : Nat)) rfl (by kernel_rfl) (by kernel_rfl) (by kernel_rfl) (fun _ _ _ h => h) (Or.inl ⟨by rfl, fun w hS => by obtain ⟨d1, d2⟩ := hS; go_simp⟩) HS.out ?_
          simp only [Act.put, List.getElem_toArray, List.getElem_cons_zero, List.getElem_cons_succ, List.setIfInBounds_toArray, List.set_cons_zero, List.set_cons_succ]
          refine wpAnyH_take (i := 5) (v := .slice (some ⟨g, 0, none⟩) n cp) rfl (by kernel_rfl) (by kernel_rfl) (by kernel_rfl) (fun _ _ _ h => h) (Or.inl ⟨by rfl, fun w hS => by go_simp⟩) HS.out ?_
          simp only [Act.put, List.getElem_toArray, List.getElem_cons_zero, List.getElem_cons_succ, List.setIfInBounds_toArray, List.set_cons_zero, List.set_cons_succ]
          refine wpAnyH_take (i := 6) (v := .int .i64 i) rfl (by kernel_rfl) (by kernel_rfl) (by kernel_rfl) (fun _ _ _ h => h) (Or.inl ⟨by rfl, fun w hS => by go_simp⟩) HS.out ?_
          simp only [Act.put, List.getElem_toArray, List.getElem_cons_zero, List.getElem_cons_succ, List.setIfInBounds_toArray, List.set_cons_zero, List.set_cons_succ]
          refine wpAnyH_take (i := 7) (v := .pointer (some ⟨g, i, none⟩)) rfl (by kernel_rfl) (by kernel_rfl) (by kernel_rfl) (fun _ _ _ h => h) (Or.inl ⟨by rfl, fun w hS => by go_simp⟩) HS.out ?_
          simp only [Act.put, List.getElem_toArray, List.getElem_cons_zero, List.getElem_cons_succ, List.setIfInBounds_toArray, List.set_cons_zero, List.set_cons_succ]
          refine wpAnyH_take (i := 8) (v := .int .u8 (atB p 256 i : Nat)) rfl (by kernel_rfl) (by kernel_rfl) (by kernel_rfl) (fun _ _ _ h => h) (Or.inl ⟨by rfl, fun w hS => by obtain ⟨d1, d2⟩ := hS; go_simp⟩) HS.out ?_
          simp only [Act.put, List.getElem_toArray, List.getElem_cons_zero, List.getElem_cons_succ, List.setIfInBounds_toArray, List.set_cons_zero, List.set_cons_succ]
          refine wpAnyH_take (i := 9) (v := .agg #[.int .u8 (atB p 256 f : Nat), .int .u8 (atB p 256 i : Nat)]) rfl (by kernel_rfl) (by kernel_rfl) (by kernel_rfl) (fun _ _ _ h => h) (Or.inl ⟨by rfl, fun w hS => by go_simp⟩) HS.out ?_
          simp only [Act.put, List.getElem_toArray, List.getElem_cons_zero, List.getElem_cons_succ, List.setIfInBounds_toArray, List.set_cons_zero, List.set_cons_succ]
          refine wpAnyH_ready (rs := [10]) (by kernel_rfl) (by simp) (AllReadyH.cons rfl (fun K hK => ?_) AllReadyH.nil)
          go_simp
          refine hK.out _ _ ⟨(World.cell?_of_block (alloc_old hgl)).trans hcf, (World.cell?_of_block (alloc_old hgl)).trans hci⟩ (fun _ => ?_)
          clear hK K
          refine wpAnyH_ready (rs := [11]) (by kernel_rfl) (by simp) (AllReadyH.cons rfl (fun K hK => ?_) AllReadyH.nil)
          refine wp_app2 rfl (.tmp 35) (.tmp 45) rfl B1 (.slice ad2 (rowsTo p (atB p 256 i)).length cp2) (rowsTo p (atB p 256 i)) rfl (OwnP.drewNAlloc HO.out _ _) wr.heap.size (atB p 256 f, atB p 256 i) rfl (heap_alloc_new _ _) (by have := rowsTo_len p (atB p 256 i); have := HLE.out; omega) (by show B1 ≤ ((wr.drewN _).alloc _).heap.size; simp; omega) ?_
          intro ad3 cp3 w3 ho3 hg3
          have HO3 := hid ho3
          have hgn : some g ≠ (Value.slice ad2 (rowsTo p (atB p 256 i)).length cp2).ownBlock := fun e => by have := (HO.out.lt g e.symm).1; omega
          have hgb : w3.heap[g]? = wr.heap[g]? := (hg3.block g (by show g < ((wr.drewN _).alloc _).heap.size; simp; omega) (fun e => hgn e)).trans (alloc_old hgl)
          have HB3 := hid (HBW.out.trans ((((below_drewN (Below.refl B1 wr) _).alloc (by show B1 ≤ wr.heap.size; omega) _)).trans (below_grown (OwnP.drewNAlloc HO.out _ _) hg3 (by show B1 ≤ ((wr.drewN _).alloc _).heap.size; simp; omega))))
          have HS := hid (show (fun W : World => W.cell? ⟨g, f, none⟩ = some (.int .u8 (atB p 256 f : Nat)) ∧ W.cell? ⟨g, i, none⟩ = some (.int .u8 (atB p 256 i : Nat))) w3 from ⟨(World.cell?_of_block hgb).trans hcf, (World.cell?_of_block hgb).trans hci⟩)
          refine hK.out _ _ HS.out (fun _ => ?_)
          clear hK K ho3 hg3
          simp only [Act.put, List.getElem_toArray, List.getElem_cons_zero, List.getElem_cons_succ, List.setIfInBounds_toArray, List.set_cons_zero, List.set_cons_succ]
          refine wpAnyH_take (i := 12) (v := .slice ad3 ((rowsTo p (atB p 256 i)).length + 1) cp3) rfl (by kernel_rfl) (by kernel_rfl) (by kernel_rfl) (fun _ _ _ h => h) (Or.inl ⟨by rfl, fun w hS => by go_simp⟩) HS.out ?_
          simp only [Act.put, List.getElem_toArray, List.getElem_cons_zero, List.getElem_cons_succ, List.setIfInBounds_toArray, List.set_cons_zero, List.set_cons_succ]
          refine wpAnyH_done (by kernel_rfl) ?_ _
          go_wp2
          go_roundw
          case rel => exact ⟨i + 1, i + 1, cp3, ad3, by omega, by go_num, by go_num, by rw [HLEN.out], hid (by rw [HLEN.out, HNEW.out]; exact HO3.out), hid (fun h => ⟨Nat.le_refl _, HSN.out (by have := HN.out; omega)⟩), HB3⟩
          case measure => simp [RowKit.intOf]; omega
    · obtain rfl : i = n := by omega
      have HEND := hid (show atB p 256 i = 256 by rw [HN.out]; exact atB_end)
      clear hlt
      go_wp2
      go_ret
      have HO2 := own_low HO.out hwB
      have hp := HP.out
      subst hp
      rw [HEND.out] at HO2
      refine ⟨⟨_, rfl, ?_⟩, HB1.out.trans (HBW.out.mono hwB)⟩
      first | exact HO2 | (rw [HEND.out]; exact HO2)
end Go.Proofs.YtfljcfdfgojdoaaGreatDoor.Sh.Rf
