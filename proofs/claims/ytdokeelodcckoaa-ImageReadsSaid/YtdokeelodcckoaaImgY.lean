/-
  The contract of the writer's method auto.
-/
import Derived.Test.YtdokeelodcckoaaImgX
import Derived.Test.YtdokeelodcckoaaImgD
import Derived.Test.YtdokeelodcckoaaImgL
namespace Go.Proofs.Ytdokeelodcckoaa.Im
open Go.RowKit Go.Lib

theorem classesIn_snoc (l : List Int) (c : Int) : classesIn (l ++ [c]) = max (classesIn l) (c + 1) := by unfold classesIn; rw [List.foldl_append]; rfl
theorem take_succ' {α : Type} (l : List α) (k : Nat) (h : k < l.length) : l.take (k + 1) = l.take k ++ [l[k]] := by rw [List.take_succ_eq_append_getElem h]

theorem byte_at {P : Nat} {w : World} {l : List B} (c : B) (n : Int) (hn : n = c.toNat) (h : WOwn P w l) :
    Calls Try.prog 37 #[.pointer (some ⟨P, 0, none⟩), .slice (some ⟨w.heap.size, 0, none⟩) 1 1] (w.alloc (.cells #[.int .u8 n] 5)) fun e w' => e = .returned (.tuple #[]) ∧ WOwn P w' (l ++ [c]) ∧ Upd P w w' := by
  subst hn; exact byte_any c h
theorem eStates_snoc (es : List Bool) (xs : List (List Int)) (k : Nat) (h1 : k < es.length) (h2 : k < xs.length) : eStates (es.take (k + 1)) (xs.take (k + 1)) = eStates (es.take k) (xs.take k) ++ (eBit es[k] ++ eNums xs[k]) := by
  induction k generalizing es xs with
  | zero =>
    obtain ⟨e, es, rfl⟩ := List.exists_cons_of_length_pos h1
    obtain ⟨x, xs, rfl⟩ := List.exists_cons_of_length_pos h2
    simp [eStates]
  | succ k ih =>
    obtain ⟨e, es, rfl⟩ := List.exists_cons_of_length_pos (Nat.lt_of_le_of_lt (Nat.zero_le _) h1)
    obtain ⟨x, xs, rfl⟩ := List.exists_cons_of_length_pos (Nat.lt_of_le_of_lt (Nat.zero_le _) h2)
    have := ih es xs (by simpa using h1) (by simpa using h2)
    simp only [List.take_succ_cons, eStates, this, List.getElem_cons_succ, List.append_assoc]
theorem eNums_snoc (l : List Int) (k : Nat) (h : k < l.length) : eNums (l.take (k + 1)) = eNums (l.take k) ++ eNum l[k] := by
  rw [take_succ' _ _ h]; unfold eNums; rw [List.flatMap_append]; simp only [List.flatMap_cons, List.flatMap_nil, List.append_nil]
theorem eClass_snoc (l : List Int) (k : Nat) (h : k < l.length) : eClass (l.take (k + 1)) = eClass (l.take k) ++ [UInt8.ofNat l[k].toNat] := by
  rw [take_succ' _ _ h]; unfold eClass; rw [List.map_append]; rfl
/-- the three cells of a box that holds an automaton -/
theorem dcells {w : World} {D : Nat} {a b c : Value} (h : w.heap[D]? = some (.cells #[a, b, c] 46 (0, 0))) :
    w.cell? ⟨D, 0, none⟩ = some a ∧ w.cell? ⟨D, 1, none⟩ = some b ∧ w.cell? ⟨D, 2, none⟩ = some c := ⟨cell_blk h rfl, cell_blk h rfl, cell_blk h rfl⟩

set_option maxRecDepth 100000 in
set_option maxHeartbeats 1000000 in
theorem autoW_any {P : Nat} {w : World} {l : List B} {F : Nat → Prop} {a b c : Value} {d : Dfa} (h : WOwn P w l) (hd : DfaIn F w a b c d) (hF : ∀ g, F g → g < P) (hok : dfaOk d = true) :
    Calls Try.prog 24 #[.pointer (some ⟨P, 0, none⟩), .agg #[a, b, c]] w fun e w' => e = .returned (.tuple #[]) ∧ WOwn P w' (l ++ eDfa d) ∧ Upd P w w' := by
  obtain ⟨m, hi⟩ := dfaOk_is hok
  obtain ⟨p1, p2, p3, p4⟩ := parts_spec _ _ _ hi.parts
  have hcl : ∀ k (hk : k < d.cls.length), 0 ≤ d.cls[k] ∧ d.cls[k] < 256 := fun k hk => by
    have := p3 _ (List.getElem_mem hk); have := hi.len; omega
  obtain ⟨hd1, hd2, hd3⟩ := hd
  obtain ⟨ad1, cp1, rfl, hm1, hr1⟩ := hd1
  obtain ⟨ad2, cp2, rfl, hm2, hr2⟩ := hd2
  obtain ⟨ad3, cp3, rfl, hm3, hr3⟩ := hd3
  have hP := h.lt
  generalize hW0 : w.alloc (.cells #[.slice ad1 d.cls.length cp1, .slice ad2 d.next.length cp2, .slice ad3 d.fin.length cp3] 46) = W0 at *
  have hDb : W0.heap[w.heap.size]? = some (.cells #[.slice ad1 d.cls.length cp1, .slice ad2 d.next.length cp2, .slice ad3 d.fin.length cp3] 46 (0, 0)) := by rw [← hW0]; exact heap_alloc_new _ _
  have h0 : WOwn P W0 l := by rw [← hW0]; exact h.alloc _
  have hU0 : Upd P w W0 := by rw [← hW0]; exact (Upd.refl P w).alloc _
  have old : ∀ g, F g → g < w.heap.size → W0.heap[g]? = w.heap[g]? := fun g _ hg => by rw [← hW0]; exact alloc_old hg
  have hr1 := hr1.frame (F' := F) (w' := W0) (fun _ h => h) old (R' := IntR) (fun _ _ _ h => h)
  have hr2 := hr2.frame (F' := F) (w' := W0) (fun _ h => h) old (R' := IntsIn F W0) (fun _ _ _ h => IntsIn.frame h (fun _ h => h) old)
  have hr3 := hr3.frame (F' := F) (w' := W0) (fun _ h => h) old (R' := BoolR) (fun _ _ _ h => h)
  have HI := hid hi
  have HDB := hid hDb
  have H0 := hid h0
  have HW0 := hid hW0
  have HCL := hid hcl
  have P3 := hid p3
  have P4 := hid p4
  have HR1 := hid hr1
  have HR2 := hid hr2
  have HR3 := hid hr3
  clear h hi hDb h0 hW0 hcl p1 p2 p3 p4 hr1 hr2 hr3 old hok
  unfold maxLen at hm1 hm2 hm3
  go_enter Try.func24, Try.ntmps24
  go_wp2
  rw [HW0.out]
  go_loop [4, 16] (fun v i => ∃ k : Nat, k ≤ d.cls.length ∧ i = .int .i64 k ∧ v = .int .i64 (classesIn (d.cls.take k))) (fun _ i => d.cls.length - (intOf i).toNat)
  case atStart => exact ⟨0, Nat.zero_le _, rfl, rfl⟩
  case round =>
    obtain ⟨k, hk, rfl, rfl⟩ := hrel
    by_cases hlt : k < d.cls.length
    · obtain ⟨g, off, rfl, _, x, hx, rfl⟩ := HR1.out.at' hlt
      have hb := HCL.out k hlt
      go_wp2
      go_round
      case rel => exact ⟨k + 1, by omega, by go_num, by rw [take_succ' _ _ hlt, classesIn_snoc]; congr 1; split <;> omega⟩
      case measure => simp [intOf]; omega
    · obtain rfl : k = d.cls.length := by omega
      rw [List.take_length]
      have P4' : classesIn d.cls = m := P4.out
      have hcm : 0 ≤ classesIn d.cls ∧ classesIn d.cls ≤ 9223372036854775807 := by rw [P4']; have := (parts_spec _ _ _ HI.out.parts).2.1; omega
      clear P4'
      obtain ⟨q0, q1, q2⟩ := dcells HDB.out
      go_wp2_with fail
      refine (number_any H0.out (by omega) (by omega)).mono ?_
      rintro e w1 ⟨rfl, hW1, hU1⟩
      obtain ⟨r0, r1, r2⟩ := dcells (hU1.row HDB.out (by decide) (by omega))
      clear q0 q1 q2
      go_wp2_with fail
      refine (number_any hW1 hcm.1 hcm.2).mono ?_
      rintro e w2 ⟨rfl, hW2, hU2⟩
      have hU := hU1.trans hU2
      obtain ⟨q0, q1, q2⟩ := dcells (hU.row HDB.out (by decide) (by omega))
      have HW2 := hid hW2
      have HU := hid hU
      clear r0 r1 r2 hW1 hW2 hU1 hU2 hU
      go_wp2_with fail
      go_loopw [36] (fun v wr => ∃ k : Nat, k ≤ d.cls.length ∧ v = .int .i64 k ∧ WOwn P wr (l ++ eNum d.next.length ++ eNum (classesIn d.cls) ++ eClass (d.cls.take k)) ∧ Upd P W0 wr) (fun v _ => d.cls.length - (intOf v).toNat)
      case atStart => exact ⟨0, Nat.zero_le _, rfl, by simpa [eClass] using HW2.out, HU.out⟩
      case round =>
        obtain ⟨k, hk, rfl, hW, hU⟩ := hrel
        have HWr := hid hW
        have HUr := hid hU
        clear hW hU
        have low : ∀ g, F g → g < W0.heap.size → wr.heap[g]? = W0.heap[g]? := fun g hg _ => (HUr.out.low (by have := hU0.size; omega)).block g (hF g hg)
        by_cases hlt : k < d.cls.length
        · obtain ⟨g, off, rfl, hFg, x, hx, rfl⟩ := (HR1.out.frame (w' := wr) (F' := F) (fun _ h => h) low (R' := IntR) (fun _ _ _ h => h)).at' hlt
          have hb := HCL.out k hlt
          have LOW := hid low
          clear low
          have hn := hid (show d.cls[k] = ((UInt8.ofNat d.cls[k].toNat).toNat : Int) by simp; omega)
          go_wp2_with (go_at_call 37; refine (byte_at _ _ hn.out HWr.out).mono ?_; rintro e w3 ⟨rfl, hW3, hU3⟩)
          go_roundw
          case rel => exact ⟨k + 1, by omega, by go_num, by rw [eClass_snoc _ _ hlt, ← List.append_assoc]; exact hW3, HUr.out.trans hU3⟩
          case measure => simp [intOf]; omega
        · obtain rfl : k = d.cls.length := by omega
          have HX := hid low
          have HW3 : Hid (WOwn P wr (l ++ eNum d.next.length ++ eNum (classesIn d.cls) ++ eClass d.cls)) := by have := HWr.out; rw [List.take_length] at this; exact this
          obtain ⟨r0, r1, r2⟩ := dcells (HUr.out.row HDB.out (by decide) (by omega))
          clear low HWr q0 q1 q2 HW2 HU
          go_wp2_with fail
          obtain ⟨wo, rfl⟩ : ∃ wo : World, wo = wr := ⟨_, rfl⟩
          have HFIN := hid HI.out.fin
          have hrows := hid HI.out.rows
          have hfew := HI.out.few
          go_loopw [49] (fun v wr => ∃ k : Nat, k ≤ d.next.length ∧ v = .int .i64 k ∧ WOwn P wr (l ++ eNum d.next.length ++ eNum (classesIn d.cls) ++ eClass d.cls ++ eStates (d.fin.take k) (d.next.take k)) ∧ Upd P W0 wr) (fun v _ => d.next.length - (intOf v).toNat)
          case atStart => exact ⟨0, Nat.zero_le _, rfl, by simpa [eStates] using HW3.out, HUr.out⟩
          case round =>
            obtain ⟨k, hk, rfl, hW, hU⟩ := hrel
            have HWr := hid hW
            have HUw := hid hU
            clear hW hU
            have low : ∀ g, F g → g < W0.heap.size → wr.heap[g]? = W0.heap[g]? := fun g hg _ => (HUw.out.low (by have := hU0.size; omega)).block g (hF g hg)
            by_cases hlt : k < d.next.length
            · obtain ⟨g, off, rfl, hFg, x, hx, hrow⟩ := (HR2.out.frame (w' := wr) (F' := F) (fun _ h => h) low (R' := IntsIn F wr) (fun _ _ _ h => IntsIn.frame h (fun _ h => h) low)).at' hlt
              obtain ⟨g3, off3, rfl, hFg3, x3, hx3, rfl⟩ := (HR3.out.frame (w' := wr) (F' := F) (fun _ h => h) low (R' := BoolR) (fun _ _ _ h => h)).at' (show k < d.fin.length by have := HFIN.out; omega)
              obtain ⟨adr, cpr, rfl, hmr, hrr⟩ := hrow
              unfold maxLen at hmr
              have hok := hrows.out _ (List.getElem_mem hlt)
              simp only [rowOk, Bool.and_eq_true, decide_eq_true_eq, List.all_eq_true] at hok
              have HOK := hid hok
              have HRR := hid hrr
              have hgf : (k : Int) < (d.fin.length : Int) := by have := HFIN.out; omega
              obtain ⟨r0, r1, r2⟩ := dcells (HUw.out.row HDB.out (by decide) (by omega))
              clear low hok hrr
              go_wp2_with (go_at_call 38; refine (bitW_any _ HWr.out).mono ?_; rintro e w4 ⟨rfl, hW4, hU4⟩; have HW4 := hid hW4; have HU4 := hid (HUw.out.trans hU4); clear hW4 hU4)
              obtain ⟨wi, rfl⟩ : ∃ wi : World, wi = wr := ⟨_, rfl⟩
              have hkf : k < d.fin.length := by have := HFIN.out; omega
              go_loopw [63] (fun v wr => ∃ j : Nat, j ≤ d.next[k].length ∧ v = .int .i64 j ∧ WOwn P wr (l ++ eNum d.next.length ++ eNum (classesIn d.cls) ++ eClass d.cls ++ eStates (d.fin.take k) (d.next.take k) ++ eBit d.fin[k] ++ eNums (d.next[k].take j)) ∧ Upd P W0 wr) (fun v _ => d.next[k].length - (intOf v).toNat)
              case atStart => exact ⟨0, Nat.zero_le _, rfl, by simpa [eNums] using HW4.out, HU4.out⟩
              case round =>
                obtain ⟨j, hj, rfl, hW, hU⟩ := hrel
                have HWq := hid hW
                have HUq := hid hU
                have HRW := hid (hrows.out)
                clear hW hU
                have lowi : ∀ g, F g → g < wi.heap.size → wr.heap[g]? = wi.heap[g]? := fun g hg _ => ((HUq.out.low (by have := hU0.size; omega)).block g (hF g hg)).trans ((HUw.out.low (by have := hU0.size; omega)).block g (hF g hg)).symm
                by_cases hlj : j < d.next[k].length
                · obtain ⟨gr, offr, rfl, hFr, x, hxr, rfl⟩ := (HRR.out.frame (w' := wr) (F' := F) (fun _ h => h) lowi (R' := IntR) (fun _ _ _ h => h)).at' hlj
                  have hz := HOK.out.2 _ (List.getElem_mem hlj)
                  have hz1 : 0 ≤ d.next[k][j] := hz.1
                  have hz2 : d.next[k][j] ≤ 9223372036854775807 := by have := hz.2; omega
                  clear hz lowi
                  go_wp2_with (go_at_call 21; refine (number_any HWq.out hz1 hz2).mono ?_; rintro e w5 ⟨rfl, hW5, hU5⟩)
                  go_roundw
                  case rel => exact ⟨j + 1, by omega, by go_num, by rw [eNums_snoc _ _ hlj, ← List.append_assoc]; exact hW5, HUq.out.trans hU5⟩
                  case measure => simp [intOf]; omega
                · obtain rfl : j = d.next[k].length := by omega
                  have HW6 := HWq.out
                  rw [List.take_length] at HW6
                  have HW7 := hid HW6
                  clear lowi HW6 HWq
                  go_wp2_with fail
                  go_roundw
                  case rel => exact ⟨k + 1, by omega, by go_num, by rw [eStates_snoc _ _ _ hkf hlt]; simpa using HW7.out, HUq.out⟩
                  case measure => simp [intOf]; omega
            · obtain rfl : k = d.next.length := by omega
              have hW8 := HWr.out
              rw [List.take_length, show d.next.length = d.fin.length from HI.out.fin.symm, List.take_length] at hW8
              have HW8 := hid hW8
              clear low hW8
              go_wp2_with fail
              go_end0
              refine ⟨rfl, ?_, hU0.trans HUw.out⟩
              have := HW8.out
              rw [show d.fin.length = d.next.length from HI.out.fin] at this
              unfold eDfa
              simpa using this
end Go.Proofs.Ytdokeelodcckoaa.Im
