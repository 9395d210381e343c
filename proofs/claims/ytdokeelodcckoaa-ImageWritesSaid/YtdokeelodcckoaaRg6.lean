/-
  The reference's writer: number, bit, text, automaton.
-/
import Derived.Test.YtdokeelodcckoaaRg5
import Derived.Lib.AppendStr
namespace Go.Proofs.Ytdokeelodcckoaa.Im
open Go.RowKit Go.Lib

/-- bytes in a row of the call's own, in blocks from base on -/
structure BOwn (base : Nat) (w : World) (v : Value) (l : List B) : Prop where
  own : w.ownsRow base 5 1 v l.length (l.map bV)
theorem BOwn.shape {base : Nat} {w : World} {v : Value} {l : List B} (h : BOwn base w v l) : ∃ a n cap, v = .slice a n cap := (own_shape h.own).elim fun a h => h.elim fun c h => ⟨a, _, c, h⟩
theorem BOwn.alloc {base : Nat} {w : World} {v : Value} {l : List B} (h : BOwn base w v l) (o : Obj) : BOwn base (w.alloc o) v l := ⟨h.own.alloc o⟩
theorem BOwn.append {base : Nat} {w : World} {v : Value} {l m : List B} (h : w.ownsRow base 5 1 v (l.length + m.length) (l.map bV ++ m.map bV)) : BOwn base w v (l ++ m) := ⟨by rw [List.length_append, List.map_append]; exact h⟩
/-- what lies below base is kept, and so is every block that is no row of bytes -/
structure Kt (base : Nat) (w w' : World) : Prop where
  low : Below base w w'
  row : ∀ {D : Nat} {cs : Array Value} {T : TypeId}, w.heap[D]? = some (.cells cs T (0, 0)) → T ≠ 5 → w'.heap[D]? = some (.cells cs T (0, 0))
theorem Kt.refl (base : Nat) (w : World) : Kt base w w := ⟨Below.refl _ _, fun h _ => h⟩
theorem Kt.trans {base : Nat} {a b c : World} (h : Kt base a b) (k : Kt base b c) : Kt base a c := ⟨h.low.trans k.low, fun hd ht => k.row (h.row hd ht) ht⟩
theorem Kt.alloc {base : Nat} {a b : World} (h : Kt base a b) (hb : base ≤ b.heap.size) (o : Obj) : Kt base a (b.alloc o) := ⟨h.low.alloc hb o, fun hd ht => (alloc_old (lt_of_heap (h.row hd ht))).trans (h.row hd ht)⟩
theorem Kt.drew {base : Nat} {a b : World} (h : Kt base a b) : Kt base a b.drew := ⟨h.low.drew, fun hd ht => h.row hd ht⟩
theorem Kt.grown {base n : Nat} {w w1 : World} {v : Value} {xs : List Value} (hb : base ≤ w.heap.size) (hown : w.ownsRow base 5 1 v n xs) (hg : w.grownBy w1 v.ownBlock) : Kt base w w1 :=
  ⟨(Below.refl base w).grown hg hb (fun _ hk => own_block hown hk), fun {D cs T} hd ht => (hg.block D (lt_of_heap hd) (fun e => by
    obtain ⟨cur, hc⟩ := own_tag hown e.symm
    rw [hd] at hc
    cases hc
    exact ht rfl)).trans hd⟩
theorem Kt.append {base n : Nat} {w w1 : World} {o : Obj} {v : Value} {xs : List Value} (hb : base ≤ w.heap.size) (hown : w.ownsRow base 5 1 v n xs) (hg : (w.alloc o).grownBy w1 v.ownBlock) : Kt base w w1 :=
  ((Kt.refl base w).alloc hb o).trans (Kt.grown (by simp; omega) (hown.alloc _) hg)
def Wrote (base : Nat) (l : List B) (w : World) (e : Ending) (w' : World) : Prop := ∃ v, e = .returned v ∧ BOwn base w' v l ∧ Kt base w w'

theorem eNum_cells (m : Nat) : (eNum (m : Int)).map bV = [.int .u8 ((m : Int) / 256 % 256), .int .u8 ((m : Int) % 256)] := by
  unfold eNum bV
  simp only [List.map_cons, List.map_nil, byte_of, Int.toNat_natCast]
  rfl
theorem one_cells {l : List Value} (h : ∀ u ∈ l, ∃ k n, u = .int k n) : ∀ u ∈ l, u.oneCell' = true := fun u hu => by
  obtain ⟨k, n, rfl⟩ := h u hu
  rfl

set_option maxRecDepth 100000 in
set_option maxHeartbeats 1000000 in
theorem numberE_any {base : Nat} {w : World} {v : Value} {l : List B} {n : Int} (hown : BOwn base w v l) (hb : base ≤ w.heap.size) (h0 : 0 ≤ n) (h1 : n ≤ 9223372036854775807) (hl : l.length ≤ 140737480000000) :
    Calls Try.prog 27 #[v, .int .i64 n] w (Wrote base (l ++ eNum n) w) := by
  obtain ⟨i0, hi, hz0, hz1, hz2⟩ := info_parts infoB
  have HI := hid hi
  have HZ := hid (And.intro hz0 (And.intro hz1 hz2))
  have HO := hid hown
  obtain ⟨m, rfl⟩ := Int.eq_ofNat_of_zero_le h0
  clear hi hz0 hz1 hz2 hown
  go_enter Try.func27, Try.ntmps27
  go_wp2_with (at_builtin; refine wpList_append_own _ rfl _ _ 26 rfl base 5 i0 _ 1 1 Try.underlying26 HI.out HZ.out.1 HZ.out.2.1 HZ.out.2.2 rfl (by decide) _ _ _ rfl (HO.out.own.alloc _) ⟨w.heap.size, 0, none⟩ 2 2 [.int .u8 ((m : Int) / 256 % 256), .int .u8 ((m : Int) % 256)] rfl rfl (fun j u hu => row_at_new _ _ _ j u hu) (one_cells (fun u hu => by simp at hu; rcases hu with rfl | rfl <;> exact ⟨_, _, rfl⟩)) (by unfold maxLen; omega) (by omega) (by simp; omega) ?_; intro v' w1 hown1 hgrow1 _; have HO1 := hid hown1; have HG1 := hid hgrow1; clear hown1 hgrow1)
  go_ret
  refine ⟨v', rfl, ?_, Kt.append hb HO.out.own HG1.out⟩
  have h := HO1.out
  rw [← eNum_cells] at h
  exact BOwn.append h

set_option maxRecDepth 100000 in
set_option maxHeartbeats 1000000 in
theorem bitE_any {base : Nat} {w : World} {v : Value} {l : List B} (b : Bool) (hown : BOwn base w v l) (hb : base ≤ w.heap.size) (hl : l.length ≤ 140737480000000) :
    Calls Try.prog 43 #[v, .bool b] w (Wrote base (l ++ eBit b) w) := by
  obtain ⟨i0, hi, hz0, hz1, hz2⟩ := info_parts infoB
  have HI := hid hi
  have HZ := hid (And.intro hz0 (And.intro hz1 hz2))
  have HO := hid hown
  clear hi hz0 hz1 hz2 hown
  cases b
  · go_enter Try.func43, Try.ntmps43
    go_wp2_with (at_builtin; refine wpList_append_own _ rfl _ _ 26 rfl base 5 i0 _ 1 1 Try.underlying26 HI.out HZ.out.1 HZ.out.2.1 HZ.out.2.2 rfl (by decide) _ _ _ rfl (HO.out.own.alloc _) ⟨w.heap.size, 0, none⟩ 1 1 [.int .u8 0] rfl rfl (fun j u hu => row_at_new _ _ _ j u hu) (one_cells (fun u hu => by simp at hu; exact ⟨_, _, hu⟩)) (by unfold maxLen; omega) (by omega) (by simp; omega) ?_; intro v' w1 hown1 hgrow1 _; have HO1 := hid hown1; have HG1 := hid hgrow1; clear hown1 hgrow1)
    go_ret
    refine ⟨v', rfl, ?_, Kt.append hb HO.out.own HG1.out⟩
    have h := HO1.out
    rw [show [Value.int .u8 0] = (eBit false).map bV from rfl] at h
    exact BOwn.append h
  · go_enter Try.func43, Try.ntmps43
    go_wp2_with (at_builtin; refine wpList_append_own _ rfl _ _ 26 rfl base 5 i0 _ 1 1 Try.underlying26 HI.out HZ.out.1 HZ.out.2.1 HZ.out.2.2 rfl (by decide) _ _ _ rfl (HO.out.own.alloc _) ⟨w.heap.size, 0, none⟩ 1 1 [.int .u8 1] rfl rfl (fun j u hu => row_at_new _ _ _ j u hu) (one_cells (fun u hu => by simp at hu; exact ⟨_, _, hu⟩)) (by unfold maxLen; omega) (by omega) (by simp; omega) ?_; intro v' w1 hown1 hgrow1 _; have HO1 := hid hown1; have HG1 := hid hgrow1; clear hown1 hgrow1)
    go_ret
    refine ⟨v', rfl, ?_, Kt.append hb HO.out.own HG1.out⟩
    have h := HO1.out
    rw [show [Value.int .u8 1] = (eBit true).map bV from rfl] at h
    exact BOwn.append h

set_option maxRecDepth 100000 in
set_option maxHeartbeats 1000000 in
theorem textE_any {base : Nat} {w : World} {v : Value} {l : List B} (s : List B) (hown : BOwn base w v l) (hb : base ≤ w.heap.size) (hl : l.length + s.length ≤ 140737400000000) :
    Calls Try.prog 45 #[v, .string ⟨s.toArray⟩] w (Wrote base (l ++ eText s) w) := by
  obtain ⟨i0, hi, hz0, hz1, hz2⟩ := info_parts infoB
  have HI := hid hi
  have HZ := hid (And.intro hz0 (And.intro hz1 hz2))
  have HO := hid hown
  have hsz := hid (show (⟨s.toArray⟩ : ByteArray).size = s.length by simp [ByteArray.size])
  have HSC := hid (show strCells ⟨s.toArray⟩ = s.map bV from rfl)
  have hs1 : s.length ≤ 9223372036854775807 := by omega
  clear hi hz0 hz1 hz2 hown
  go_enter Try.func45, Try.ntmps45
  go_wp2_with fail
  refine (numberE_any HO.out hb (by omega) (by omega) (by omega)).mono ?_
  rintro e w1 ⟨v1, rfl, hown1, hk1⟩
  have HO1 := hid hown1
  have HK1 := hid hk1
  have hs2 := hk1.low.size
  clear hown1 hk1
  go_wp2_with (refine wpList_append_own_string _ rfl _ _ 26 9 rfl base 5 i0 Try.underlying26 Try.underlying9 HI.out HZ.out.1 HZ.out.2.1 HZ.out.2.2 _ _ _ rfl HO1.out.own ⟨s.toArray⟩ rfl (by rw [hsz.out]; unfold maxLen; simp [eNum]; omega) (by rw [hsz.out]; simp [eNum]; omega) (by omega) ?_; intro v2 w2 hown2 hgrow2 _; have HO2 := hid hown2; have HG2 := hid hgrow2; clear hown2 hgrow2)
  go_ret
  refine ⟨v2, rfl, ?_, HK1.out.trans (Kt.grown (by omega) HO1.out.own HG2.out)⟩
  have h := HO2.out
  rw [hsz.out, HSC.out] at h
  unfold eText
  rw [← List.append_assoc]
  exact BOwn.append h
end Go.Proofs.Ytdokeelodcckoaa.Im

namespace Go.Proofs.Ytdokeelodcckoaa.Im
open Go.RowKit Go.Lib

theorem eNums_len (l : List Int) : (eNums l).length = 2 * l.length := by
  induction l with
  | nil => rfl
  | cons x l ih => unfold eNums at ih ⊢; rw [List.flatMap_cons, List.length_append, ih]; simp [eNum]; omega
theorem eBit_len (b : Bool) : (eBit b).length = 1 := rfl
theorem eText_len (s : List B) : (eText s).length = 2 + s.length := by unfold eText; rw [List.length_append, eNum_len]
theorem eClass_len (l : List Int) : (eClass l).length = l.length := by unfold eClass; simp
theorem eStates_le (m : Nat) : ∀ (es : List Bool) (xs : List (List Int)), (∀ x ∈ xs, x.length ≤ m) → (eStates es xs).length ≤ xs.length * (1 + 2 * m)
  | [], _, _ => by simp [eStates]
  | _ :: _, [], _ => by simp [eStates]
  | e :: es, x :: xs, h => by
    have ih := eStates_le m es xs (fun y hy => h y (List.mem_cons_of_mem _ hy))
    have hx := h x (List.mem_cons_self ..)
    simp only [eStates, List.length_append, eBit_len, eNums_len, List.length_cons]
    rw [Nat.add_mul]
    omega
theorem dfa_m {d : Dfa} {m : Nat} (h : DfaIs d m) : m ≤ 256 := by
  have := (parts_spec _ _ _ h.parts).2.1
  have := h.len
  omega
theorem rowOk_len {m n : Nat} {x : List Int} (h : rowOk m n x = true) : x.length = m := by
  simp only [rowOk, Bool.and_eq_true, decide_eq_true_eq] at h
  exact h.1
theorem eStates_few {d : Dfa} {m : Nat} (h : DfaIs d m) (k : Nat) : (eStates (d.fin.take k) (d.next.take k)).length ≤ 525312 := by
  have h1 := eStates_le 256 (d.fin.take k) (d.next.take k) (fun x hx => by
    have := rowOk_len (h.rows x (List.mem_of_mem_take hx))
    have := dfa_m h
    omega)
  have h2 := h.few
  rw [List.length_take] at h1
  have h3 : min k d.next.length ≤ 1024 := by omega
  omega
theorem eDfa_few {d : Dfa} (h : dfaOk d = true) : (eDfa d).length ≤ 600000 := by
  obtain ⟨m, hi⟩ := dfaOk_is h
  have h1 := eStates_few hi d.next.length
  rw [List.take_length, show d.fin.take d.next.length = d.fin by rw [← hi.fin, List.take_length]] at h1
  have h2 := hi.len
  unfold eDfa
  simp only [List.length_append, eNum_len, eClass_len]
  omega

set_option maxRecDepth 100000 in
set_option maxHeartbeats 4000000 in
theorem autoE_any {base : Nat} {w : World} {v : Value} {l : List B} {F : Nat → Prop} {a b c : Value} {d : Dfa} (hown : BOwn base w v l) (hbs : base ≤ w.heap.size) (hd : DfaIn F w a b c d) (hF : ∀ g, F g → g < base) (hok : dfaOk d = true) (hl : l.length ≤ 100000000000000) :
    Calls Try.prog 42 #[v, .agg #[a, b, c]] w (Wrote base (l ++ eDfa d) w) := by
  obtain ⟨m, hi⟩ := dfaOk_is hok
  obtain ⟨p1, p2, p3, p4⟩ := parts_spec _ _ _ hi.parts
  have hcl : ∀ k (hk : k < d.cls.length), 0 ≤ d.cls[k] ∧ d.cls[k] < 256 := fun k hk => by
    have := p3 _ (List.getElem_mem hk); have := hi.len; omega
  have P4 : Hid (classesIn d.cls = m) := hid p4
  obtain ⟨i0, hj, hz0, hz1, hz2⟩ := info_parts infoB
  have HJ := hid hj
  have HZ := hid (And.intro hz0 (And.intro hz1 hz2))
  clear hj hz0 hz1 hz2
  obtain ⟨hd1, hd2, hd3⟩ := hd
  obtain ⟨ad1, cp1, rfl, hm1, hr1⟩ := hd1
  obtain ⟨ad2, cp2, rfl, hm2, hr2⟩ := hd2
  obtain ⟨ad3, cp3, rfl, hm3, hr3⟩ := hd3
  generalize hW0 : w.alloc (.cells #[.slice ad1 d.cls.length cp1, .slice ad2 d.next.length cp2, .slice ad3 d.fin.length cp3] 46) = W0
  have hDb : W0.heap[w.heap.size]? = some (.cells #[.slice ad1 d.cls.length cp1, .slice ad2 d.next.length cp2, .slice ad3 d.fin.length cp3] 46 (0, 0)) := by rw [← hW0]; exact heap_alloc_new _ _
  have h0 : BOwn base W0 v l := by rw [← hW0]; exact hown.alloc _
  have hK0 : Kt base w W0 := by rw [← hW0]; exact (Kt.refl base w).alloc hbs _
  have hb0 := hK0.low.size
  have DC := hid (show ∀ W : World, Kt base W0 W → W.cell? ⟨w.heap.size, 0, none⟩ = some (.slice ad1 d.cls.length cp1) ∧ W.cell? ⟨w.heap.size, 1, none⟩ = some (.slice ad2 d.next.length cp2) ∧ W.cell? ⟨w.heap.size, 2, none⟩ = some (.slice ad3 d.fin.length cp3) from fun W hW => dcells (hW.row hDb (by decide)))
  have R1 := hid (show ∀ W : World, Kt base W0 W → RowAt F W IntR ad1 d.cls from fun W hW => hr1.frame (fun _ h => h) (fun g hg hl => ((hK0.trans hW).low.block g (hF g hg))) (fun _ _ _ h => h))
  have R2 := hid (show ∀ W : World, Kt base W0 W → RowAt F W (IntsIn F W) ad2 d.next from fun W hW => hr2.frame (fun _ h => h) (fun g hg hl => ((hK0.trans hW).low.block g (hF g hg))) (fun _ _ _ h => IntsIn.frame h (fun _ h => h) (fun g hg hl => ((hK0.trans hW).low.block g (hF g hg)))))
  have R3 := hid (show ∀ W : World, Kt base W0 W → RowAt F W BoolR ad3 d.fin from fun W hW => hr3.frame (fun _ h => h) (fun g hg hl => ((hK0.trans hW).low.block g (hF g hg))) (fun _ _ _ h => h))
  have HI := hid hi
  have H0 := hid h0
  have HW0 := hid hW0
  have HCL := hid hcl
  clear hown hi hDb h0 hW0 hcl p1 p2 p3 p4 hr1 hr2 hr3 hok
  unfold maxLen at hm1 hm2 hm3
  have hlen := HI.out.len
  have hl2 : 256 ≤ d.cls.length := by omega
  have HLEN := hid hlen
  clear hlen
  have hs0 := HI.out.some
  obtain ⟨q0, q1, q2⟩ := DC.out W0 (Kt.refl _ _)
  go_enter Try.func42, Try.ntmps42
  go_wp2_with fail
  rw [HW0.out]
  refine (numberE_any H0.out (by omega) (by omega) (by omega) (by omega)).mono ?_
  rintro e w1 ⟨v1, rfl, hown1, hk1⟩
  have HO1 := hid hown1
  have HK1 := hid hk1
  clear hown1 hk1 q0 q1 q2
  obtain ⟨q0, q1, q2⟩ := DC.out w1 HK1.out
  have hn0 : 0 < d.next.length := by omega
  have hn0' : (0 : Int) < (d.next.length : Int) := by omega
  obtain ⟨g, off, rfl, hFg, x, hx, hrow⟩ := (R2.out w1 HK1.out).at' hn0
  obtain ⟨adr, cpr, rfl, hmr, hrr⟩ := hrow
  rw [Nat.add_zero] at hx
  have hm0 := hid (show (d.next[0].length : Int) = classesIn d.cls by rw [P4.out, rowOk_len (HI.out.rows _ (List.getElem_mem hn0))])
  have hm256 : d.next[0].length ≤ 256 := by have := rowOk_len (HI.out.rows _ (List.getElem_mem hn0)); have := dfa_m HI.out; omega
  clear hrr hmr
  have hs1 := HK1.out.low.size
  go_wp2_with fail
  refine (numberE_any HO1.out (by omega) (by omega) (by omega) (by simp [eNum_len]; omega)).mono ?_
  rw [hm0.out]
  rintro e w2 ⟨v2, rfl, hown2, hk2⟩
  have HO2 := hid hown2
  have HK2 := hid (HK1.out.trans hk2)
  clear hown2 hk2 q0 q1 q2 hx hm256 hm0
  go_wp2
  go_loopw [0, 5] (fun v i wr => ∃ k : Nat, k ≤ 256 ∧ i = .int .i64 k ∧ BOwn base wr v (l ++ eNum d.next.length ++ eNum (classesIn d.cls) ++ eClass (d.cls.take k)) ∧ Kt base W0 wr) (fun _ i _ => 256 - (intOf i).toNat)
  case atStart => exact ⟨0, by omega, rfl, by simpa [eClass] using HO2.out, HK2.out⟩
  case round =>
    obtain ⟨k, hk, rfl, hown3, hk3⟩ := hrel
    have HO3 := hid hown3
    have HK3 := hid hk3
    obtain ⟨ad, n5, cap, rfl⟩ := hown3.shape
    clear hown3 hk3
    have hs3 := HK3.out.low.size
    obtain ⟨q0, q1, q2⟩ := DC.out wr HK3.out
    by_cases hlt : k < 256
    · have hkl : k < d.cls.length := by omega
      obtain ⟨g, off, rfl, hFg, x, hx, rfl⟩ := (R1.out wr HK3.out).at' hkl
      have hb := HCL.out k hkl
      have hn := hid (show [Value.int .u8 d.cls[k]] = [UInt8.ofNat d.cls[k].toNat].map bV by unfold bV; simp; omega)
      have hle : (l ++ eNum d.next.length ++ eNum (classesIn d.cls) ++ eClass (d.cls.take k)).length ≤ 110000000000000 := by simp only [List.length_append, eNum_len, eClass_len, List.length_take]; omega
      have hb1 := hb.1
      have hb2 := hb.2
      clear hb
      go_wp2_with (at_builtin; refine wpList_append_own _ rfl _ _ 26 rfl base 5 i0 _ 1 1 Try.underlying26 HJ.out HZ.out.1 HZ.out.2.1 HZ.out.2.2 rfl (by decide) _ _ _ rfl (HO3.out.own.alloc _) ⟨wr.heap.size, 0, none⟩ 1 1 [.int .u8 d.cls[k]] rfl rfl (fun j u hu => row_at_new _ _ _ j u hu) (one_cells (fun u hu => by simp at hu; exact ⟨_, _, hu⟩)) (by unfold maxLen; omega) (by omega) (by simp; omega) ?_; intro v' w4 hown4 hgrow4 _; have HO4 := hid hown4; have HG4 := hid hgrow4; clear hown4 hgrow4)
      go_roundw
      case rel =>
        refine ⟨k + 1, by omega, by go_num, ?_, HK3.out.trans (Kt.append (by omega) HO3.out.own HG4.out)⟩
        have h := HO4.out
        rw [hn.out] at h
        rw [eClass_snoc _ _ hkl, ← List.append_assoc]
        exact BOwn.append h
      case measure => simp [intOf]; omega
    · obtain rfl : k = 256 := by omega
      have HO5 : Hid (BOwn base wr (.slice ad n5 cap) (l ++ eNum d.next.length ++ eNum (classesIn d.cls) ++ eClass d.cls)) := hid (by
        have h := HO3.out
        rw [show d.cls.take 256 = d.cls from List.take_of_length_le (by rw [HLEN.out]; omega)] at h
        exact h)
      clear HO3
      have hlc : (l ++ eNum d.next.length ++ eNum (classesIn d.cls) ++ eClass d.cls).length ≤ 110000000000000 := by have := HLEN.out; simp only [List.length_append, eNum_len, eClass_len]; omega
      have EQ := hid (show l ++ eDfa d = l ++ eNum d.next.length ++ eNum (classesIn d.cls) ++ eClass d.cls ++ eStates d.fin d.next by unfold eDfa; simp)
      generalize l ++ eNum d.next.length ++ eNum (classesIn d.cls) ++ eClass d.cls = lc at *
      obtain ⟨wo, rfl⟩ : ∃ wo : World, wo = wr := ⟨_, rfl⟩
      have HFIN := hid HI.out.fin
      have hfew := HI.out.few
      clear q0 q1 q2
      go_wp2
      go_loopw [0, 6] (fun v i wr => ∃ k : Nat, k ≤ d.next.length ∧ i = .int .i64 k ∧ BOwn base wr v (lc ++ eStates (d.fin.take k) (d.next.take k)) ∧ Kt base W0 wr) (fun _ i _ => d.next.length - (intOf i).toNat)
      case atStart => exact ⟨0, Nat.zero_le _, rfl, by simpa [eStates] using HO5.out, HK3.out⟩
      case round =>
        obtain ⟨k, hk, rfl, hown6, hk6⟩ := hrel
        have HO6 := hid hown6
        have HK6 := hid hk6
        obtain ⟨ad, n6, cap, rfl⟩ := hown6.shape
        clear hown6 hk6
        have hs6 := HK6.out.low.size
        obtain ⟨q0, q1, q2⟩ := DC.out wr HK6.out
        by_cases hlt : k < d.next.length
        · have hkf : k < d.fin.length := by have := HFIN.out; omega
          have hkf' : (k : Int) < (d.fin.length : Int) := by omega
          have hkn' : (k : Int) < (d.next.length : Int) := by omega
          obtain ⟨g3, off3, rfl, hFg3, x3, hx3, rfl⟩ := (R3.out wr HK6.out).at' hkf
          have hlk := eStates_few HI.out k
          have hle : (lc ++ eStates (d.fin.take k) (d.next.take k)).length ≤ 120000000000000 := by rw [List.length_append]; omega
          go_wp2_with fail
          refine (bitE_any _ HO6.out (by omega) (by omega)).mono ?_
          rintro e w7 ⟨v7, rfl, hown7, hk7⟩
          have HO7 := hid hown7
          have HK7 := hid (HK6.out.trans hk7)
          clear hown7 hk7 q0 q1 q2
          have hrok := hid (HI.out.rows _ (List.getElem_mem hlt))
          have hrl := rowOk_len hrok.out
          have hm256 := dfa_m HI.out
          obtain ⟨wi, rfl⟩ : ∃ wi : World, wi = wr := ⟨_, rfl⟩
          have hrl2 : d.next[k].length ≤ 256 := by omega
          clear hrl
          go_wp2
          go_loopw [0, 7] (fun v i wr => ∃ j : Nat, j ≤ d.next[k].length ∧ i = .int .i64 j ∧ BOwn base wr v (lc ++ eStates (d.fin.take k) (d.next.take k) ++ eBit d.fin[k] ++ eNums (d.next[k].take j)) ∧ Kt base W0 wr) (fun _ i _ => d.next[k].length - (intOf i).toNat)
          case atStart => exact ⟨0, Nat.zero_le _, rfl, by simpa [eNums] using HO7.out, HK7.out⟩
          case round =>
            obtain ⟨j, hj, rfl, hown8, hk8⟩ := hrel
            have HO8 := hid hown8
            have HK8 := hid hk8
            obtain ⟨ad, n8, cap, rfl⟩ := hown8.shape
            clear hown8 hk8
            have hs8 := HK8.out.low.size
            obtain ⟨q0, q1, q2⟩ := DC.out wr HK8.out
            obtain ⟨g, off, e8, hFg, x, hx, hrow⟩ := (R2.out wr HK8.out).at' hlt
            cases e8
            obtain ⟨adr, cpr, rfl, hmr, hrr⟩ := hrow
            unfold maxLen at hmr
            have HRR := hid hrr
            clear hrr
            by_cases hlj : j < d.next[k].length
            · obtain ⟨gr, offr, rfl, hFr, x, hxr, rfl⟩ := HRR.out.at' hlj
              have hz := hrok.out
              simp only [rowOk, Bool.and_eq_true, decide_eq_true_eq, List.all_eq_true] at hz
              have hz := hz.2 _ (List.getElem_mem hlj)
              have hz1 : 0 ≤ d.next[k][j] := hz.1
              have hz2 : d.next[k][j] ≤ 9223372036854775807 := by have := hz.2; omega
              have hlj' : (j : Int) < (d.next[k].length : Int) := by omega
              have hle8 : (lc ++ eStates (d.fin.take k) (d.next.take k) ++ eBit d.fin[k] ++ eNums (d.next[k].take j)).length ≤ 130000000000000 := by simp only [List.length_append, eNums_len, eBit_len, List.length_take] at hle ⊢; omega
              clear hz
              go_wp2_with fail
              refine (numberE_any HO8.out (by omega) hz1 hz2 (by omega)).mono ?_
              rintro e w9 ⟨v9, rfl, hown9, hk9⟩
              have HO9 := hid hown9
              have HK9 := hid (HK8.out.trans hk9)
              clear hown9 hk9
              go_wp2
              go_roundw
              case rel => exact ⟨j + 1, by omega, by go_num, by rw [eNums_snoc _ _ hlj, ← List.append_assoc]; exact HO9.out, HK9.out⟩
              case measure => simp [intOf]; omega
            · have HN9 := hid (show BOwn base wr (.slice ad n8 cap) (lc ++ eStates (d.fin.take (k + 1)) (d.next.take (k + 1))) by
                have h := HO8.out
                rw [show d.next[k].take j = d.next[k] from List.take_of_length_le (by omega)] at h
                rw [eStates_snoc _ _ _ hkf hlt]
                simpa using h)
              clear HO8
              go_wp2
              refine And.intro ?_ ?_
              · first
                  | exact ⟨k + 1, by omega, by go_num, HN9.out, HK8.out⟩
                  | (repeat apply Exists.intro
                     refine And.intro ?_ rfl
                     exact ⟨k + 1, by omega, by go_num, HN9.out, HK8.out⟩)
              · simp [intOf]; omega
        · obtain rfl : k = d.next.length := by omega
          have HN := hid (show BOwn base wr (.slice ad n6 cap) (l ++ eDfa d) by
            have h := HO6.out
            rw [List.take_length, show d.fin.take d.next.length = d.fin by rw [← HFIN.out, List.take_length]] at h
            rw [EQ.out]
            exact h)
          clear HO6
          go_wp2
          go_ret
          exact ⟨_, rfl, HN.out, hK0.trans HK6.out⟩
end Go.Proofs.Ytdokeelodcckoaa.Im
