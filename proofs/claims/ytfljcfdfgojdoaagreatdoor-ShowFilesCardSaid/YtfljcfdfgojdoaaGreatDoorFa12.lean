/-
  lex.Set: the contract.
  What the lexer makes of two texts with the end of a line between: the tokens of both; no program in sight.
  The tokens of a text, places aside, as a relation: of two texts with the end of a line between, of a text in brackets; no program in sight.
-/
import Derived.Test.YtfljcfdfgojdoaaGreatDoorFa11
import Derived.Test.YtfljcfdfgojdoaaGreatDoorFa06
namespace Go.Proofs.YtfljcfdfgojdoaaGreatDoor.Sh
open Go.RowKit Go.Lib Go.Proofs.YtfljcfdfgojdoaaGreatDoor

theorem infoS : (Tryz.prog.info? 30).map (·.size) = some 4 := by kernel_rfl
theorem startP_ext {p q : Nat → Bool} : ∀ b, (∀ k, k < b → p k = q k) → startP p b = startP q b
  | 0, _ => rfl
  | b + 1, h => by
    unfold startP
    rw [h b (Nat.lt_succ_self b), startP_ext b (fun k hk => h k (by omega))]
theorem rowsTo_ext {p q : Nat → Bool} (h : ∀ k, k < 256 → p k = q k) : rowsTo p 256 = rowsTo q 256 := by
  unfold rowsTo
  have e : (List.range 256).filter (lastP p) = (List.range 256).filter (lastP q) := List.filter_congr fun b hb => by
    have hb' := List.mem_range.1 hb
    unfold lastP
    rw [h b hb']
    by_cases h5 : b < 255
    · rw [h (b + 1) (by omega)]
    · simp [h5]
  rw [e]
  refine List.map_congr_left fun b hb => ?_
  have hb' := List.mem_range.1 (List.mem_filter.1 hb).1
  rw [startP_ext b fun k hk => h k (by omega)]
theorem rowW_len (r : Nat × Nat) : (rowW r).length ≤ 9 := by
  unfold rowW
  have h1 := esc_len (UInt8.ofNat r.1)
  have h2 := esc_len (UInt8.ofNat r.2)
  rw [List.length_append]
  split
  · simp only [List.length_cons]; omega
  · simp; omega
theorem rows_len (l : List (Nat × Nat)) : (l.flatMap rowW).length ≤ 9 * l.length := by
  induction l with
  | nil => simp
  | cons r l ih => rw [List.flatMap_cons, List.length_append, List.length_cons]; have := rowW_len r; omega
theorem flatR_at {l : List (Nat × Nat)} {k : Nat} (h : k < l.length) : (flatR l)[k * 2]? = some (.int .u8 (l[k].1 : Int)) ∧ (flatR l)[k * 2 + 1]? = some (.int .u8 (l[k].2 : Int)) := by
  induction l generalizing k with
  | nil => simp at h
  | cons r l ih =>
    cases k with
    | zero => exact ⟨rfl, rfl⟩
    | succ k =>
      have h' : k < l.length := by simpa using h
      have e1 : (k + 1) * 2 = k * 2 + 1 + 1 := by omega
      have := ih h'
      rw [e1]
      exact this
/-- a row of rows of one's own: what lies at place k -/
theorem rows_at {w : World} {base : Nat} {v : Value} {l : List (Nat × Nat)} (h : w.ownsRow base 195 2 v l.length (flatR l)) {k : Nat} (hk : k < l.length) :
    ∃ g cp, v = .slice (some ⟨g, 0, none⟩) l.length cp ∧ base ≤ g ∧ g < w.heap.size ∧ w.cell? ⟨g, k * 2, none⟩ = some (.int .u8 (l[k].1 : Int)) ∧ w.cell? ⟨g, k * 2 + 1, none⟩ = some (.int .u8 (l[k].2 : Int)) := by
  have hall := h
  rcases h.2 with ⟨_, h0⟩ | ⟨g, cap, cur, rfl, h2, h3, _⟩
  · omega
  · obtain ⟨e1, e2⟩ := flatR_at hk
    have c1 := hall.cells (g := g) rfl _ _ e1
    have c2 := hall.cells (g := g) rfl _ _ e2
    rw [Addr.add_lit, Nat.zero_add] at c1 c2
    exact ⟨g, cap, rfl, h2, lt_of_heap h3, c1, c2⟩
set_option maxRecDepth 100000 in
set_option maxHeartbeats 4000000 in
theorem set2_any (s : Se) (hs : SeOk s) (w : World) :
    Calls Tryz.prog 143 #[s.v] w (StrPost (setP (hasS s)) w) := by
  have HS := hid hs
  go_enter Tryz.func143, Tryz.ntmps143
  go_upto_region 2 with fail
  obtain ⟨W1, hW1⟩ : ∃ W1, W1 = (w.alloc (.cells #[.int .u64 s.a, .int .u64 s.b, .int .u64 s.c, .int .u64 s.d] 30)).alloc (.cells #[.int .u8 91] 5) := ⟨_, rfl⟩
  have hz1 : W1.heap.size = w.heap.size + 2 := by rw [hW1]; simp
  have HB1 := hid (show Below w.heap.size w W1 by rw [hW1]; exact ((Below.refl _ _).alloc (Nat.le_refl _) _).alloc (by simp) _)
  have hbox : W1.heap[w.heap.size]? = some (.cells #[.int .u64 s.a, .int .u64 s.b, .int .u64 s.c, .int .u64 s.d] 30 (0, 0)) := by rw [hW1]; exact (alloc_old (by simp)).trans (heap_alloc_new _ _)
  have HO1 := hid (show OwnB W1 (w.heap.size + 1) (.slice (some ⟨w.heap.size + 1, 0, none⟩) 1 1) [91] from by
    rw [hW1]
    exact ⟨rfl, .inr ⟨w.heap.size + 1, 1, _, rfl, Nat.le_refl _, newAt, Nat.le_refl _, by unfold maxLen; omega, rfl, rfl⟩⟩)
  rw [← hW1]
  clear hW1 hs
  have c0 := cell_blk (i := 0) hbox rfl
  have c1 := cell_blk (i := 1) hbox rfl
  have c2 := cell_blk (i := 2) hbox rfl
  have c3 := cell_blk (i := 3) hbox rfl
  have hsz := size_any s HS.out W1
  by_cases hbig : 128 < manyP (hasS s) 256
  · have hbig' : (128 : Int) < (manyP (hasS s) 256 : Int) := by omega
    have HE := hid (show setP (hasS s) = [91, 94] ++ ((rowsTo (hasS (notS s)) 256).flatMap rowW ++ [93]) by
      unfold setP
      rw [if_pos hbig, rowsTo_ext (p := hasS (notS s)) (q := fun b => !hasS s b) (fun k hk => has_not HS.out hk)])
    clear hbig
    generalize manyP (hasS s) 256 = m at *
    go_upto_region 3 with (go_at_call 173; refine hsz.mono ?_; clear hsz; rintro e W2 ⟨rfl, hb2⟩; have HO2 := hid (HO1.out.below hb2); have HB2 := hid (HB1.out.trans (hb2.mono HB1.out.size)); have HBX2 := hid ((hb2.block w.heap.size (by omega)).trans hbox); have hz2 := hb2.size; clear hb2 c0 c1 c2 c3 hbox)
    go_upto_region 4 with (at_builtin; refine wpList_app rfl (.tmp 10) (.tmp 11) rfl (w.heap.size + 1) (.slice (some ⟨w.heap.size + 1, 0, none⟩) 1 1) [91] rfl (HO2.out.alloc _) W2.heap.size [94] 1 rfl (heap_b rfl) (by decide) (by simp; omega) ?_; intro ad3 n3 cp3 W3 hn3 ho3 hb3 hnb3; have HO3 := hid ho3; have HB3 := hid ((HB2.out.alloc (by omega) _).trans (hb3.mono (by omega))); have HBX3 := hid ((((NB.refl W2).alloc _).trans hnb3) _ _ HBX2.out (by intro cur fr e; cases e)); have hz3 : W2.heap.size ≤ W3.heap.size := (by have := hb3.size; simp at this; omega); clear ho3 hb3 hnb3)
    have c0 := cell_blk (i := 0) HBX3.out rfl
    have c1 := cell_blk (i := 1) HBX3.out rfl
    have c2 := cell_blk (i := 2) HBX3.out rfl
    have c3 := cell_blk (i := 3) HBX3.out rfl
    have hnt := not_any s W3
    go_upto_region 5 with (first | (go_at_call 142; refine hnt.mono ?_; clear hnt; rintro e W4 ⟨rfl, hb4⟩; have HO4 := hid (HO3.out.below hb4); have HB4 := hid (HB3.out.trans (hb4.mono HB3.out.size)); have HBX4 := hid ((hb4.block w.heap.size (by omega)).trans HBX3.out); have hz4 := hb4.size; clear hb4 c0 c1 c2 c3) | (refine wpList_store_blk rfl 30 (.tmp 1) (.tmp 14) rfl 4 infoS w.heap.size 30 _ HBX4.out rfl (notS s).cs rfl (by rfl) rfl rfl ?_; have HBX5 := hid (Go.Proofs.YtfljcfdfgojdoaaGreatDoor.setRow_heap HBX4.out (notS s).cs); have HO5 := hid (show OwnB (W4.setRow w.heap.size (notS s).cs) (w.heap.size + 1) (.slice ad3 n3 cp3) ([91] ++ [94]) from ownsRow_same HO4.out fun k cur hk hb => Go.Proofs.YtfljcfdfgojdoaaGreatDoor.setRow_other _ (by omega)); have HB5 := hid (Below.setRow HB4.out (Nat.le_refl _) (notS s).cs); have hz5 : (W4.setRow w.heap.size (notS s).cs).heap.size = W4.heap.size := (by simp)))
    generalize W4.setRow w.heap.size (notS s).cs = W5 at *
    have d0 := cell_blk (i := 0) HBX5.out rfl
    have d1 := cell_blk (i := 1) HBX5.out rfl
    have d2 := cell_blk (i := 2) HBX5.out rfl
    have d3 := cell_blk (i := 3) HBX5.out rfl
    have hru := rows_any (notS s) W5
    go_wp2_with (go_at_call 174; refine hru.mono ?_; clear hru; rintro e W6 ⟨⟨v6, rfl, ho6⟩, hb6⟩; obtain ⟨ad6, cp6, rfl⟩ := own_shape ho6; have HR6 := hid ho6; have HO6 := hid (show OwnB W6 (w.heap.size + 1) _ ([91, 94] ++ (([] : List (Nat × Nat)).flatMap rowW)) from HO5.out.below hb6); have HB6 := hid (HB5.out.trans (hb6.mono HB5.out.size)); clear ho6 hb6)
    have hlr := rowsTo_len (hasS (notS s)) 256
    generalize hrs : rowsTo (hasS (notS s)) 256 = rs at *
    have HRS := hid hrs
    clear hrs
    go_loopw [3, 18] (fun v i wr => ∃ (k n cp : Nat) (ad : Option Addr), k ≤ rs.length ∧ i = .int .i64 k ∧ v = .slice ad n cp ∧ Hid (OwnB wr (w.heap.size + 1) (.slice ad n cp) ([91, 94] ++ (rs.take k).flatMap rowW)) ∧ Below w.heap.size w wr ∧ NB W6 wr ∧ W6.heap.size ≤ wr.heap.size) (fun _ i _ => rs.length - (RowKit.intOf i).toNat)
    case atStart => exact ⟨0, _, _, _, Nat.zero_le _, rfl, rfl, HO6, HB6.out, NB.refl _, Nat.le_refl _⟩
    case round =>
      obtain ⟨k, n, cp, ad, hk, rfl, rfl, HO, hb, hnb, hsz6⟩ := hrel
      have HB := hid hb
      have HN := hid hnb
      have hbs := hb.size
      by_cases hlt : k < rs.length
      · obtain ⟨g, cp', he, hg1, hg2, x0, x1⟩ := rows_at (ownsRow_same (w' := wr) HR6.out (fun k cur hk _ => (hnb k _ hk (by intro cur fr e; cases e)).trans hk.symm)) hlt
        cases he
        have hin := rowsTo_in (p := hasS (notS s)) (c := 256) (r := rs[k]) (by rw [HRS.out]; exact List.getElem_mem hlt)
        have HL := hid (show [91, 94] ++ (rs.take (k + 1)).flatMap rowW = ([91, 94] ++ (rs.take k).flatMap rowW) ++ rowW rs[k] by
          rw [List.take_succ_eq_append_getElem hlt, List.flatMap_append]
          simp)
        have hlen : ([91, 94] ++ (rs.take k).flatMap rowW).length ≤ 10000 := by
          have h1 := rows_len (rs.take k)
          rw [List.length_take] at h1
          rw [List.length_append]
          have h2 : ([91, 94] : List B).length ≤ 2 := by decide
          omega
        clear hnb hb
        generalize rs[k] = r at *
        obtain ⟨a, b⟩ := r
        dsimp only at hin x0 x1
        have ca : (UInt8.ofNat a).toNat = a := by rw [UInt8.toNat_ofNat']; exact Nat.mod_eq_of_lt (by omega)
        have cb : (UInt8.ofNat b).toNat = b := by rw [UInt8.toNat_ofNat']; exact Nat.mod_eq_of_lt (by omega)
        have HRW := hid (show rowW (a, b) = escB (UInt8.ofNat a) ++ (if a < b then 45 :: escB (UInt8.ofNat b) else []) from rfl)
        generalize UInt8.ofNat a = x at *
        generalize UInt8.ofNat b = y at *
        subst ca cb
        generalize [91, 94] ++ (rs.take k).flatMap rowW = acc at *
        have hbx : (wr.alloc (.cells #[.int .u8 x.toNat, .int .u8 y.toNat] 195)).heap[wr.heap.size]? = some (.cells #[.int .u8 x.toNat, .int .u8 y.toNat] 195 (0, 0)) := heap_alloc_new _ _
        have e0 := cell_blk (i := 0) hbx rfl
        go_upto_region 8 with fail
        have hwa := written_any (HO.out.below ((Below.refl _ wr).alloc (Nat.le_refl _) (.cells #[.int .u8 x.toNat, .int .u8 y.toNat] 195))) (by simp; omega) (by omega) x
        have hzA : (wr.alloc (.cells #[.int .u8 x.toNat, .int .u8 y.toNat] 195)).heap.size = wr.heap.size + 1 := by simp
        have HNA := hid (HN.out.alloc (.cells #[.int .u8 x.toNat, .int .u8 y.toNat] 195))
        have HBA := hid (HB.out.alloc hbs (.cells #[.int .u8 x.toNat, .int .u8 y.toNat] 195))
        have HBX := hid hbx
        clear hbx x0 x1
        generalize wr.heap.size = Q at *
        generalize wr.alloc (.cells #[.int .u8 x.toNat, .int .u8 y.toNat] 195) = WA at *
        go_upto_region 9 with (go_at_call 132; refine hwa.mono ?_; clear hwa e0; rintro e W7 ⟨v7, rfl, ho7, hb7, hn7⟩; obtain ⟨ad7, cp7, hv7⟩ := own_shape ho7; obtain ⟨n7, hl7⟩ : ∃ n7, n7 = (acc ++ escB x).length := ⟨_, rfl⟩; rw [← hl7] at hv7; subst hv7; have HO7 := hid (show OwnB W7 _ _ (acc ++ escB x) from ho7); have HB7 := hid (HBA.out.trans (hb7.mono (by omega))); have HN7 := hid (HNA.out.trans hn7); have hbx7 := hn7 _ _ HBX.out (by intro cur fr e; cases e); have e0 := cell_blk (i := 0) hbx7 rfl; have e1 := cell_blk (i := 1) hbx7 rfl; have HBX7 := hid hbx7; have hz7 := hb7.size; clear ho7 hb7 hn7 hbx7 hl7)
        by_cases hab : x.toNat < y.toNat
        · have hab' : (x.toNat : Int) < (y.toNat : Int) := by omega
          have HRY := hid (HRW.out.trans (by rw [if_pos hab]))
          clear hab
          go_upto_region 11 with (at_builtin; refine wpList_app rfl (.tmp 31) (.tmp 32) rfl (w.heap.size + 1) (.slice ad7 n7 cp7) (acc ++ escB x) rfl (HO7.out.alloc _) W7.heap.size [45] 1 rfl (heap_b rfl) (by have := esc_len x; rw [List.length_append]; show _ + 1 ≤ _; omega) (by simp; omega) ?_; intro ad8 n8 cp8 W8 hn8 ho8 hb8 hnb8; have HO8 := hid ho8; have HB8 := hid ((HB7.out.alloc (by omega) _).trans (hb8.mono (by omega))); have HN78 := ((NB.refl W7).alloc _).trans hnb8; have HN8 := hid (HN7.out.trans HN78); have hbx8 := HN78 _ _ HBX7.out (by intro cur fr e; cases e); have i1 := cell_blk (i := 1) hbx8 rfl; have hz8 : W7.heap.size ≤ W8.heap.size := (by have := hb8.size; simp at this; omega); clear ho8 hb8 hnb8 HN78 hbx8 e0 e1 hn8)
          have hlen8 : (acc ++ escB x ++ [45]).length ≤ 70368744177664 := by have := esc_len x; simp; omega
          have hwb := written_any HO8.out (by omega) hlen8 y
          clear hlen8
          go_wp2_with (go_at_call 132; refine hwb.mono ?_; clear hwb i1; rintro e W9 ⟨v9, rfl, ho9, hb9, hn9⟩; obtain ⟨ad9, cp9, hv9⟩ := own_shape ho9; obtain ⟨n9, hl9⟩ : ∃ n9, n9 = (acc ++ escB x ++ [45] ++ escB y).length := ⟨_, rfl⟩; rw [← hl9] at hv9; subst hv9; have HO9 := hid (show OwnB W9 _ _ (acc ++ escB x ++ [45] ++ escB y) from ho9); have HB9 := hid (HB8.out.trans (hb9.mono (by omega))); have HN9 := hid (HN8.out.trans hn9); have hz9 := hb9.size; clear ho9 hb9 hn9 hl9)
          go_roundw
          case rel => exact ⟨k + 1, n9, cp9, ad9, by omega, by go_num, rfl, hid (by rw [HL.out, HRY.out]; have := HO9.out; simp only [List.append_assoc, List.cons_append, List.nil_append] at this ⊢; exact this), HB9.out, HN9.out, by omega⟩
          case measure => simp [RowKit.intOf]; omega
        · have hab' : ¬ ((x.toNat : Int) < (y.toNat : Int)) := by omega
          have HRY := hid (HRW.out.trans (by rw [if_neg hab, List.append_nil]))
          clear hab
          go_wp2_with fail
          go_roundw
          case rel => exact ⟨k + 1, n7, cp7, ad7, by omega, by go_num, rfl, hid (by rw [HL.out, HRY.out]; exact HO7.out), HB7.out, HN7.out, by omega⟩
          case measure => simp [RowKit.intOf]; omega
      · obtain rfl : k = rs.length := by omega
        have HF := hid (show (rs.take rs.length) = rs from List.take_length)
        have HO0 := hid (show OwnB wr (w.heap.size + 1) (.slice ad n cp) ([91, 94] ++ rs.flatMap rowW) by have := HO.out; rw [HF.out] at this; exact this)
        have hlen : ([91, 94] ++ rs.flatMap rowW).length + 1 ≤ 140737488355328 := by
          have h1 := rows_len rs
          rw [List.length_append]
          have h2 : ([91, 94] : List B).length ≤ 2 := by decide
          omega
        go_wp2_with (at_builtin; refine wpList_app rfl (.tmp 39) (.tmp 40) rfl (w.heap.size + 1) (.slice ad n cp) ([91, 94] ++ rs.flatMap rowW) rfl (HO0.out.alloc _) wr.heap.size [93] 1 rfl (heap_b rfl) hlen (by simp; omega) ?_; intro ad8 n8 cp8 W8 hn8 ho8 hb8 _; have hstr := own_str ho8; have HB8 := hid ((HB.out.alloc hbs _).trans (hb8.mono (by omega))); clear ho8 hb8)
        go_ret
        refine ⟨?_, HB8.out⟩
        rw [HE.out]
        simp only []
        rfl
  · have hbig' : ¬ ((128 : Int) < (manyP (hasS s) 256 : Int)) := by omega
    have HE := hid (show setP (hasS s) = [91] ++ ((rowsTo (hasS s) 256).flatMap rowW ++ [93]) by unfold setP; rw [if_neg hbig])
    clear hbig
    generalize manyP (hasS s) 256 = m at *
    go_upto_region 5 with (go_at_call 173; refine hsz.mono ?_; clear hsz; rintro e W2 ⟨rfl, hb2⟩; have d0 := (hb2.cell (p := ⟨w.heap.size, 0, none⟩) (by show w.heap.size < _; omega)).trans c0; have d1 := (hb2.cell (p := ⟨w.heap.size, 1, none⟩) (by show w.heap.size < _; omega)).trans c1; have d2 := (hb2.cell (p := ⟨w.heap.size, 2, none⟩) (by show w.heap.size < _; omega)).trans c2; have d3 := (hb2.cell (p := ⟨w.heap.size, 3, none⟩) (by show w.heap.size < _; omega)).trans c3; have HO2 := hid (HO1.out.below hb2); have HB2 := hid (HB1.out.trans (hb2.mono HB1.out.size)); have hz2 := hb2.size; clear hb2 c0 c1 c2 c3 hbox)
    have hru := rows_any s W2
    go_wp2_with (go_at_call 174; refine hru.mono ?_; clear hru; rintro e W6 ⟨⟨v6, rfl, ho6⟩, hb6⟩; obtain ⟨ad6, cp6, rfl⟩ := own_shape ho6; have HR6 := hid ho6; have HO6 := hid (show OwnB W6 (w.heap.size + 1) _ ([91] ++ (([] : List (Nat × Nat)).flatMap rowW)) from HO2.out.below hb6); have HB6 := hid (HB2.out.trans (hb6.mono HB2.out.size)); clear ho6 hb6)
    have hlr := rowsTo_len (hasS (s)) 256
    generalize hrs : rowsTo (hasS (s)) 256 = rs at *
    have HRS := hid hrs
    clear hrs
    go_loopw [3, 18] (fun v i wr => ∃ (k n cp : Nat) (ad : Option Addr), k ≤ rs.length ∧ i = .int .i64 k ∧ v = .slice ad n cp ∧ Hid (OwnB wr (w.heap.size + 1) (.slice ad n cp) ([91] ++ (rs.take k).flatMap rowW)) ∧ Below w.heap.size w wr ∧ NB W6 wr ∧ W6.heap.size ≤ wr.heap.size) (fun _ i _ => rs.length - (RowKit.intOf i).toNat)
    case atStart => exact ⟨0, _, _, _, Nat.zero_le _, rfl, rfl, HO6, HB6.out, NB.refl _, Nat.le_refl _⟩
    case round =>
      obtain ⟨k, n, cp, ad, hk, rfl, rfl, HO, hb, hnb, hsz6⟩ := hrel
      have HB := hid hb
      have HN := hid hnb
      have hbs := hb.size
      by_cases hlt : k < rs.length
      · obtain ⟨g, cp', he, hg1, hg2, x0, x1⟩ := rows_at (ownsRow_same (w' := wr) HR6.out (fun k cur hk _ => (hnb k _ hk (by intro cur fr e; cases e)).trans hk.symm)) hlt
        cases he
        have hin := rowsTo_in (p := hasS (s)) (c := 256) (r := rs[k]) (by rw [HRS.out]; exact List.getElem_mem hlt)
        have HL := hid (show [91] ++ (rs.take (k + 1)).flatMap rowW = ([91] ++ (rs.take k).flatMap rowW) ++ rowW rs[k] by
          rw [List.take_succ_eq_append_getElem hlt, List.flatMap_append]
          simp)
        have hlen : ([91] ++ (rs.take k).flatMap rowW).length ≤ 10000 := by
          have h1 := rows_len (rs.take k)
          rw [List.length_take] at h1
          rw [List.length_append]
          have h2 : ([91] : List B).length ≤ 2 := by decide
          omega
        clear hnb hb
        generalize rs[k] = r at *
        obtain ⟨a, b⟩ := r
        dsimp only at hin x0 x1
        have ca : (UInt8.ofNat a).toNat = a := by rw [UInt8.toNat_ofNat']; exact Nat.mod_eq_of_lt (by omega)
        have cb : (UInt8.ofNat b).toNat = b := by rw [UInt8.toNat_ofNat']; exact Nat.mod_eq_of_lt (by omega)
        have HRW := hid (show rowW (a, b) = escB (UInt8.ofNat a) ++ (if a < b then 45 :: escB (UInt8.ofNat b) else []) from rfl)
        generalize UInt8.ofNat a = x at *
        generalize UInt8.ofNat b = y at *
        subst ca cb
        generalize [91] ++ (rs.take k).flatMap rowW = acc at *
        have hbx : (wr.alloc (.cells #[.int .u8 x.toNat, .int .u8 y.toNat] 195)).heap[wr.heap.size]? = some (.cells #[.int .u8 x.toNat, .int .u8 y.toNat] 195 (0, 0)) := heap_alloc_new _ _
        have e0 := cell_blk (i := 0) hbx rfl
        go_upto_region 8 with fail
        have hwa := written_any (HO.out.below ((Below.refl _ wr).alloc (Nat.le_refl _) (.cells #[.int .u8 x.toNat, .int .u8 y.toNat] 195))) (by simp; omega) (by omega) x
        have hzA : (wr.alloc (.cells #[.int .u8 x.toNat, .int .u8 y.toNat] 195)).heap.size = wr.heap.size + 1 := by simp
        have HNA := hid (HN.out.alloc (.cells #[.int .u8 x.toNat, .int .u8 y.toNat] 195))
        have HBA := hid (HB.out.alloc hbs (.cells #[.int .u8 x.toNat, .int .u8 y.toNat] 195))
        have HBX := hid hbx
        clear hbx x0 x1
        generalize wr.heap.size = Q at *
        generalize wr.alloc (.cells #[.int .u8 x.toNat, .int .u8 y.toNat] 195) = WA at *
        go_upto_region 9 with (go_at_call 132; refine hwa.mono ?_; clear hwa e0; rintro e W7 ⟨v7, rfl, ho7, hb7, hn7⟩; obtain ⟨ad7, cp7, hv7⟩ := own_shape ho7; obtain ⟨n7, hl7⟩ : ∃ n7, n7 = (acc ++ escB x).length := ⟨_, rfl⟩; rw [← hl7] at hv7; subst hv7; have HO7 := hid (show OwnB W7 _ _ (acc ++ escB x) from ho7); have HB7 := hid (HBA.out.trans (hb7.mono (by omega))); have HN7 := hid (HNA.out.trans hn7); have hbx7 := hn7 _ _ HBX.out (by intro cur fr e; cases e); have e0 := cell_blk (i := 0) hbx7 rfl; have e1 := cell_blk (i := 1) hbx7 rfl; have HBX7 := hid hbx7; have hz7 := hb7.size; clear ho7 hb7 hn7 hbx7 hl7)
        by_cases hab : x.toNat < y.toNat
        · have hab' : (x.toNat : Int) < (y.toNat : Int) := by omega
          have HRY := hid (HRW.out.trans (by rw [if_pos hab]))
          clear hab
          go_upto_region 11 with (at_builtin; refine wpList_app rfl (.tmp 31) (.tmp 32) rfl (w.heap.size + 1) (.slice ad7 n7 cp7) (acc ++ escB x) rfl (HO7.out.alloc _) W7.heap.size [45] 1 rfl (heap_b rfl) (by have := esc_len x; rw [List.length_append]; show _ + 1 ≤ _; omega) (by simp; omega) ?_; intro ad8 n8 cp8 W8 hn8 ho8 hb8 hnb8; have HO8 := hid ho8; have HB8 := hid ((HB7.out.alloc (by omega) _).trans (hb8.mono (by omega))); have HN78 := ((NB.refl W7).alloc _).trans hnb8; have HN8 := hid (HN7.out.trans HN78); have hbx8 := HN78 _ _ HBX7.out (by intro cur fr e; cases e); have i1 := cell_blk (i := 1) hbx8 rfl; have hz8 : W7.heap.size ≤ W8.heap.size := (by have := hb8.size; simp at this; omega); clear ho8 hb8 hnb8 HN78 hbx8 e0 e1 hn8)
          have hlen8 : (acc ++ escB x ++ [45]).length ≤ 70368744177664 := by have := esc_len x; simp; omega
          have hwb := written_any HO8.out (by omega) hlen8 y
          clear hlen8
          go_wp2_with (go_at_call 132; refine hwb.mono ?_; clear hwb i1; rintro e W9 ⟨v9, rfl, ho9, hb9, hn9⟩; obtain ⟨ad9, cp9, hv9⟩ := own_shape ho9; obtain ⟨n9, hl9⟩ : ∃ n9, n9 = (acc ++ escB x ++ [45] ++ escB y).length := ⟨_, rfl⟩; rw [← hl9] at hv9; subst hv9; have HO9 := hid (show OwnB W9 _ _ (acc ++ escB x ++ [45] ++ escB y) from ho9); have HB9 := hid (HB8.out.trans (hb9.mono (by omega))); have HN9 := hid (HN8.out.trans hn9); have hz9 := hb9.size; clear ho9 hb9 hn9 hl9)
          go_roundw
          case rel => exact ⟨k + 1, n9, cp9, ad9, by omega, by go_num, rfl, hid (by rw [HL.out, HRY.out]; have := HO9.out; simp only [List.append_assoc, List.cons_append, List.nil_append] at this ⊢; exact this), HB9.out, HN9.out, by omega⟩
          case measure => simp [RowKit.intOf]; omega
        · have hab' : ¬ ((x.toNat : Int) < (y.toNat : Int)) := by omega
          have HRY := hid (HRW.out.trans (by rw [if_neg hab, List.append_nil]))
          clear hab
          go_wp2_with fail
          go_roundw
          case rel => exact ⟨k + 1, n7, cp7, ad7, by omega, by go_num, rfl, hid (by rw [HL.out, HRY.out]; exact HO7.out), HB7.out, HN7.out, by omega⟩
          case measure => simp [RowKit.intOf]; omega
      · obtain rfl : k = rs.length := by omega
        have HF := hid (show (rs.take rs.length) = rs from List.take_length)
        have HO0 := hid (show OwnB wr (w.heap.size + 1) (.slice ad n cp) ([91] ++ rs.flatMap rowW) by have := HO.out; rw [HF.out] at this; exact this)
        have hlen : ([91] ++ rs.flatMap rowW).length + 1 ≤ 140737488355328 := by
          have h1 := rows_len rs
          rw [List.length_append]
          have h2 : ([91] : List B).length ≤ 2 := by decide
          omega
        go_wp2_with (at_builtin; refine wpList_app rfl (.tmp 39) (.tmp 40) rfl (w.heap.size + 1) (.slice ad n cp) ([91] ++ rs.flatMap rowW) rfl (HO0.out.alloc _) wr.heap.size [93] 1 rfl (heap_b rfl) hlen (by simp; omega) ?_; intro ad8 n8 cp8 W8 hn8 ho8 hb8 _; have hstr := own_str ho8; have HB8 := hid ((HB.out.alloc hbs _).trans (hb8.mono (by omega))); clear ho8 hb8)
        go_ret
        refine ⟨?_, HB8.out⟩
        rw [HE.out]
        simp only []
        rfl
end Go.Proofs.YtfljcfdfgojdoaaGreatDoor.Sh

namespace Go.Proofs.YtfljcfdfgojdoaaGreatDoor
open Go.Lib

theorem twoL_app {r z : List B} {b : B} {n : Nat} (h : twoL r = .ok (b, n)) : twoL (r ++ z) = .ok (b, n) := by
  unfold twoL at h ⊢
  rcases r with _ | ⟨c, _ | ⟨d, t⟩⟩
  · simp at h
  · simp only at h
    split at h <;> simp at h
  · exact h
theorem oneL_app {r z : List B} {b : B} {n : Nat} (h : oneL r = .ok (b, n)) : oneL (r ++ z) = .ok (b, n) := by
  unfold oneL at h ⊢
  rcases r with _ | ⟨c, _ | ⟨d, t⟩⟩
  · simp at h
  · simp only [List.cons_append, List.nil_append] at h ⊢
    split at h
    · rename_i h1
      rw [if_pos h1]; exact h
    · simp at h
  · simp only [List.cons_append] at h ⊢
    split at h
    · rename_i h1
      rw [if_pos h1]; exact h
    · rename_i h1
      rw [if_neg h1]
      split at h
      · rename_i h2; rw [if_pos h2]; exact h
      · rename_i h2
        rw [if_neg h2]
        split at h
        · rename_i h3; rw [if_pos h3]; exact h
        · rename_i h3
          rw [if_neg h3]
          split at h
          · rename_i h4; rw [if_pos h4]; exact h
          · rename_i h4
            rw [if_neg h4]
            split at h
            · rename_i h5
              rw [if_pos h5]
              rcases h6 : twoL t with e | ⟨b', n'⟩
              · rw [h6] at h; simp at h
              · rw [h6] at h
                rw [twoL_app h6]; exact h
            · rename_i h5; rw [if_neg h5]; exact h
theorem takeWhile_app {p : B → Bool} {z : List B} {c : B} (hc : p c = false) : ∀ r : List B, (r ++ c :: z).takeWhile p = r.takeWhile p
  | [] => by simp [hc]
  | d :: r => by
    simp only [List.cons_append, List.takeWhile_cons]
    rw [takeWhile_app hc r]
end Go.Proofs.YtfljcfdfgojdoaaGreatDoor

namespace Go.Proofs.YtfljcfdfgojdoaaGreatDoor
open Go.Lib

/-- the tokens of a row of bytes, their places left out -/
inductive Lexes : List B → List Tok → Prop
  | stop {r : List B} (h : white false r = []) : Lexes r []
  | step {r r1 : List B} {c : B} {t : Tok} {n : Nat} {l : List Tok} (h : white false r = c :: r1) (ht : tokenL (c :: r1) = .ok (t, n)) (hl : Lexes ((c :: r1).drop n) l) : Lexes r (t :: l)
theorem Lexes.same {r r' : List B} {l : List Tok} (h : Lexes r l) (he : white false r' = white false r) : Lexes r' l := by
  cases h with
  | stop h => exact .stop (he.trans h)
  | step h ht hl => exact .step (he.trans h) ht hl
def Tok.base (t : Tok) : Tok := { t with pos := 0 }
theorem nextL_cons {k : Nat} {r r1 : List B} {c : B} (h : white false r = c :: r1) : nextL k r = nextAt (k + (r.length - (c :: r1).length)) (c :: r1) := by
  unfold nextL; rw [h]
/-- one sign -/
def sb (c : B) : Tok := ⟨4, [c], Se.none, 0, 0⟩
theorem Lexes.sign {c : B} {r : List B} {l : List Tok} (h : Lexes r l) (hw : white false (c :: r) = c :: r) (ht : tokenL (c :: r) = .ok (sb c, 1)) : Lexes (c :: r) (sb c :: l) :=
  .step hw ht h
theorem Lexes.opn {r : List B} {l : List Tok} (h : Lexes r l) : Lexes (40 :: r) (sb 40 :: l) := h.sign rfl rfl
theorem Lexes.sht {r : List B} {l : List Tok} (h : Lexes r l) : Lexes (41 :: r) (sb 41 :: l) := h.sign rfl rfl
theorem Lexes.star {r : List B} {l : List Tok} (h : Lexes r l) : Lexes (42 :: r) (sb 42 :: l) := h.sign rfl rfl
theorem Lexes.nil : Lexes [] [] := .stop rfl
theorem Lexes.remark {r : List B} {l : List Tok} (h : Lexes r l) : Lexes (32 :: 35 :: 10 :: r) l := h.same rfl
end Go.Proofs.YtfljcfdfgojdoaaGreatDoor
