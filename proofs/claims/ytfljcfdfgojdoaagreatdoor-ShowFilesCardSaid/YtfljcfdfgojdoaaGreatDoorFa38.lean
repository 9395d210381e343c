/-
  The reference's depth of an expression.
  The reference's depth of a map.
-/
import Derived.Test.YtfljcfdfgojdoaaGreatDoorFa34
import Derived.Test.YtfljcfdfgojdoaaGreatDoorFa17
namespace Go.Proofs.YtfljcfdfgojdoaaGreatDoor.Sh.Rf
open Go.RowKit Go.Lib Go.Proofs.YtfljcfdfgojdoaaGreatDoor Go.Proofs.YtfljcfdfgojdoaaGreatDoor.Sh

abbrev needs : Array Value := #[.int .i64 1, .int .i64 2, .int .i64 3, .int .i64 3, .int .i64 5, .int .i64 0]
theorem need_at (k : Int) : needs[levK k]? = some (.int .i64 (needK k)) := by
  by_cases h5 : k = 5
  · subst h5; rfl
  · by_cases h6 : k = 6
    · subst h6; rfl
    · by_cases h4 : k = 4
      · subst h4; rfl
      · by_cases h7 : k = 7
        · subst h7; rfl
        · by_cases h8 : k = 8
          · subst h8; rfl
          · have e1 : levK k = 5 := by unfold levK; simp [h5, h6, h4, h7, h8]
            have e2 : needK k = 0 := by unfold needK; simp [h5, h6, h4, h7, h8]
            rw [e1, e2]; rfl
theorem levK_le (k : Int) : levK k ≤ 5 := lev_le (.mk k [] Se.none [] 0 0)
theorem needK_le (k : Int) : needK k ≤ 5 := by
  unfold needK
  split
  · omega
  · split
    · omega
    · split
      · omega
      · split
        · omega
        · split <;> omega
theorem partsD_snoc (n : Nat) (p : Re) : ∀ l : List Re, partsD n (l ++ [p]) = max (partsD n l) (askD p n)
  | [] => by
    rw [List.nil_append, partsD, partsD]
    show max (askD p n) 0 = max 0 (askD p n)
    omega
  | q :: l => by
    rw [List.cons_append, partsD, partsD, partsD_snoc n p l]
    omega
theorem reD_mk (k : Int) (x : List B) (s : Se) (ps : List Re) (mn mx : Int) : reD (.mk k x s ps mn mx) = partsD (needK k) ps + (if k = 7 then 1 else 0) := by rw [reD]
set_option maxRecDepth 100000 in
set_option maxHeartbeats 4000000 in
theorem deepR_any : ∀ (N : Nat) (r : Re), SizeOf.sizeOf r < N → reD r ≤ 1000000 → ∀ (asked : Nat), asked ≤ 5 → ∀ (F : Nat → Prop) (cs : Array Value) (w : World), (∀ g, F g → g < w.heap.size) → ReG F w r cs →
    Calls Tryz.prog 43 #[.agg cs, .int .i64 asked] w fun e w' => e = .returned (.int .i64 (askD r asked : Nat)) ∧ Below w.heap.size w w' := by
  intro N
  induction N with
  | zero => intro r h; omega
  | succ N ih =>
    intro r hN hD asked ha F cs w hFw h
    obtain ⟨k, x, s, ps, mn, mx⟩ := r
    obtain ⟨ad, cap, rfl, hlen, ho⟩ := h.open
    have hsub : ∀ p ∈ ps, SizeOf.sizeOf p < N := fun p hp => by
      have h1 := List.sizeOf_lt_of_mem hp
      simp only [Re.mk.sizeOf_spec] at hN
      omega
    rw [reD_mk] at hD
    have hpd : partsD (needK k) ps ≤ 1000000 := by omega
    have hpart : ∀ p ∈ ps, reD p ≤ 1000000 := fun p hp => by
      have h1 := partsD_mem (asked := needK k) hp
      have h2 : reD p ≤ askD p (needK k) := Nat.le_add_right _ _
      omega
    have IH := hid (fun p (hp : p ∈ ps) => ih p (hsub p hp) (hpart p hp) (needK k) (needK_le k))
    have HPD := hid hpd
    have HFW := hid hFw
    have HO := hid ho
    unfold maxLen at hlen
    have HASK := hid (show askD (.mk k x s ps mn mx) asked = partsD (needK k) ps + (if k = 7 then 1 else 0) + (if levK k < asked then 1 else 0) from by unfold askD; rw [reD_mk]; rfl)
    have hblk : ((w.alloc (.cells (reC k x s (.slice ad ps.length cap) mn mx) 33)).alloc (.cells needs 3)).heap[w.heap.size]? = some (.cells (reC k x s (.slice ad ps.length cap) mn mx) 33 (0, 0)) := heap_alloc2_old _ _ _
    have hnd : ((w.alloc (.cells (reC k x s (.slice ad ps.length cap) mn mx) 33)).alloc (.cells needs 3)).heap[w.heap.size + 1]? = some (.cells needs 3 (0, 0)) := heap_alloc2_new _ _ _
    have hsz0 : ((w.alloc (.cells (reC k x s (.slice ad ps.length cap) mn mx) 33)).alloc (.cells needs 3)).heap.size = w.heap.size + 2 := by simp
    have HB0 := hid (show Below w.heap.size w ((w.alloc (.cells (reC k x s (.slice ad ps.length cap) mn mx) 33)).alloc (.cells needs 3)) from ((Below.refl _ w).alloc (Nat.le_refl _) _).alloc (by simp) _)
    have HBK := hid hblk
    have HND := hid hnd
    obtain ⟨lv, hl⟩ : ∃ lv : Nat, lv = levK k := ⟨_, rfl⟩
    obtain ⟨nd, hn⟩ : ∃ nd : Nat, nd = needK k := ⟨_, rfl⟩
    have hlv := fun W => levelR_any k x s (.slice ad ps.length cap) mn mx W
    have hat := need_at k
    rw [← hl] at hat HASK hlv
    rw [← hn] at hat HASK IH HPD
    have hl5 : lv ≤ 5 := by rw [hl]; exact levK_le k
    have HAT := hid hat
    obtain ⟨ask, hak⟩ : ∃ ask : Int, ask = (asked : Int) := ⟨_, rfl⟩
    have HAK := hid hak
    rw [← hak]
    clear h ih hsub hN hFw ho hblk hnd hpd hpart hD hl hn hat hak
    go_enter Tryz.func43, Tryz.ntmps43
    go_upto_region 3 with fail
    generalize (w.alloc (.cells (reC k x s (.slice ad ps.length cap) mn mx) 33)).alloc (.cells needs 3) = W0 at *
    go_wp2
    go_loopw [5, 7] (fun vn vi wr => ∃ i : Nat, i ≤ ps.length ∧ vi = .int .i64 i ∧ vn = .int .i64 (partsD nd (ps.take i) : Nat) ∧ Hid (Below (w.heap.size + 2) W0 wr)) (fun _ vi _ => ps.length - (RowKit.intOf vi).toNat)
    case atStart => exact ⟨0, Nat.zero_le _, rfl, by rw [List.take_zero, partsD]; rfl, hid (Below.refl _ _)⟩
    case round =>
      obtain ⟨i, hi, rfl, rfl, HB⟩ := hrel
      have hwr : Below w.heap.size w wr := HB0.out.trans (HB.out.mono (by omega))
      have hsz : w.heap.size + 2 ≤ wr.heap.size := by have := HB.out.size; omega
      have hbk := (HB.out.block w.heap.size (by omega)).trans HBK.out
      obtain ⟨c0, c1, c2, c3, c4, c5, c6, c7, c8⟩ := nine_of hbk
      by_cases hlt : i < ps.length
      · have hgi : (i : Int) < (ps.length : Int) := by omega
        obtain ⟨g, off, rfl, hgF, hparts⟩ := HO.out (by rintro rfl; simp at hlt)
        obtain ⟨k1, x1, s1, ad1, n1, cap1, mn1, mx1, hr1, hc⟩ := hparts.at (List.getElem?_eq_getElem hlt)
        have HLOW := hid (show ∀ W, Below wr.heap.size wr W → Below w.heap.size w W from fun W hW => hwr.trans (hW.mono hwr.size))
        have HFQ := hid (show ∀ W, Below wr.heap.size wr W → (fun W : World => (W.cell? ⟨g, off + i * 9, none⟩ = some (.int .i64 k1) ∧ W.cell? ⟨g, off + i * 9 + 1, none⟩ = some (.string ⟨x1.toArray⟩) ∧ W.cell? ⟨g, off + i * 9 + 2, none⟩ = some (.int .u64 s1.a) ∧ W.cell? ⟨g, off + i * 9 + 3, none⟩ = some (.int .u64 s1.b) ∧ W.cell? ⟨g, off + i * 9 + 4, none⟩ = some (.int .u64 s1.c) ∧ W.cell? ⟨g, off + i * 9 + 5, none⟩ = some (.int .u64 s1.d) ∧ W.cell? ⟨g, off + i * 9 + 6, none⟩ = some ((.slice ad1 n1 cap1)) ∧ W.cell? ⟨g, off + i * 9 + 7, none⟩ = some (.int .i64 mn1) ∧ W.cell? ⟨g, off + i * 9 + 8, none⟩ = some (.int .i64 mx1)) ∧ (W.cell? ⟨w.heap.size, 0, none⟩ = some (.int .i64 k) ∧ W.cell? ⟨w.heap.size, 1, none⟩ = some (.string ⟨x.toArray⟩) ∧ W.cell? ⟨w.heap.size, 2, none⟩ = some (.int .u64 s.a) ∧ W.cell? ⟨w.heap.size, 3, none⟩ = some (.int .u64 s.b) ∧ W.cell? ⟨w.heap.size, 4, none⟩ = some (.int .u64 s.c) ∧ W.cell? ⟨w.heap.size, 5, none⟩ = some (.int .u64 s.d) ∧ W.cell? ⟨w.heap.size, 6, none⟩ = some ((.slice (some ⟨g, off, none⟩) ps.length cap)) ∧ W.cell? ⟨w.heap.size, 7, none⟩ = some (.int .i64 mn) ∧ W.cell? ⟨w.heap.size, 8, none⟩ = some (.int .i64 mx)) ∧ W.cell? ⟨w.heap.size + 1, lv, none⟩ = some (.int .i64 (nd : Nat))) W from fun W hW => by
          obtain ⟨a0, a1, a2, a3, a4, a5, a6, a7, a8⟩ := elem9_of (W := W) (g := g) (o := off + i * 9) fun j v hv => ((HLOW.out W hW).cell (p := ⟨g, off + i * 9 + j, none⟩) (HFW.out g hgF)).trans (hc j v hv)
          obtain ⟨b0, b1, b2, b3, b4, b5, b6, b7, b8⟩ := nine_of ((hW.block w.heap.size (by omega)).trans hbk)
          exact ⟨⟨a0, a1, a2, a3, a4, a5, a6, a7, a8⟩, ⟨b0, b1, b2, b3, b4, b5, b6, b7, b8⟩, cell_blk ((hW.block (w.heap.size + 1) (by omega)).trans ((HB.out.block (w.heap.size + 1) (by omega)).trans HND.out)) HAT.out⟩)
        have hcall := fun (W : World) (hW : Below wr.heap.size wr W) => IH.out _ (List.getElem_mem hlt) F _ W (fun g hg => by have := HFW.out g hg; have := (HLOW.out W hW).size; omega) (hr1.below HFW.out (HLOW.out W hW))
        have HCALL := hid hcall
        have HD := hid ((Below.refl wr.heap.size wr).drew)
        have HSN := hid (show partsD nd (ps.take (i + 1)) = max (partsD nd (ps.take i)) (askD ps[i] nd) by rw [take_snoc hlt, partsD_snoc])
        have hl6 : (lv : Int) < 6 := by omega
        clear hc hr1 hcall c0 c1 c2 c3 c4 c5 c7 c8
        generalize askD ps[i] nd = Y at *
        generalize partsD nd (ps.take i) = Z at *
        go_upto_region 6 with fail
        clear c6
        go_region_held3 (fun W : World => (W.cell? ⟨g, off + i * 9, none⟩ = some (.int .i64 k1) ∧ W.cell? ⟨g, off + i * 9 + 1, none⟩ = some (.string ⟨x1.toArray⟩) ∧ W.cell? ⟨g, off + i * 9 + 2, none⟩ = some (.int .u64 s1.a) ∧ W.cell? ⟨g, off + i * 9 + 3, none⟩ = some (.int .u64 s1.b) ∧ W.cell? ⟨g, off + i * 9 + 4, none⟩ = some (.int .u64 s1.c) ∧ W.cell? ⟨g, off + i * 9 + 5, none⟩ = some (.int .u64 s1.d) ∧ W.cell? ⟨g, off + i * 9 + 6, none⟩ = some ((.slice ad1 n1 cap1)) ∧ W.cell? ⟨g, off + i * 9 + 7, none⟩ = some (.int .i64 mn1) ∧ W.cell? ⟨g, off + i * 9 + 8, none⟩ = some (.int .i64 mx1)) ∧ (W.cell? ⟨w.heap.size, 0, none⟩ = some (.int .i64 k) ∧ W.cell? ⟨w.heap.size, 1, none⟩ = some (.string ⟨x.toArray⟩) ∧ W.cell? ⟨w.heap.size, 2, none⟩ = some (.int .u64 s.a) ∧ W.cell? ⟨w.heap.size, 3, none⟩ = some (.int .u64 s.b) ∧ W.cell? ⟨w.heap.size, 4, none⟩ = some (.int .u64 s.c) ∧ W.cell? ⟨w.heap.size, 5, none⟩ = some (.int .u64 s.d) ∧ W.cell? ⟨w.heap.size, 6, none⟩ = some ((.slice (some ⟨g, off, none⟩) ps.length cap)) ∧ W.cell? ⟨w.heap.size, 7, none⟩ = some (.int .i64 mn) ∧ W.cell? ⟨w.heap.size, 8, none⟩ = some (.int .i64 mx)) ∧ W.cell? ⟨w.heap.size + 1, lv, none⟩ = some (.int .i64 (nd : Nat))) (first | exact HFQ.out _ HB4.out | exact HFQ.out _ HB3.out | exact HFQ.out _ HD.out | exact HFQ.out _ (Below.refl _ _)) ((first | (go_at_call 90; refine (hlv _).mono ?_; rintro e W3 ⟨rfl, hb3⟩; have HB3 := hid (HD.out.trans (hb3.mono HD.out.size)); clear hb3) | (go_at_call 43; refine (HCALL.out _ HB3.out).mono ?_; rintro e W4 ⟨rfl, hb4⟩; have HB4 := hid (HB3.out.trans (hb4.mono HB3.out.size)); clear hb4)))
        go_wp2
        case roundEnd => exact ⟨⟨i + 1, by omega, by go_num, by rw [HSN.out]; congr 1; omega, hid (HB.out.trans (HB4.out.mono hsz))⟩, by simp [RowKit.intOf]; omega⟩
      · obtain rfl : i = ps.length := by omega
        have HN := hid (List.take_length (l := ps))
        rw [HN.out]
        have HZ := HPD.out
        have HR := hid (show ∀ (W : World), Below (w.heap.size + 2) W0 W → Below w.heap.size w W from fun W hW => HB0.out.trans (hW.mono (by omega)))
        have hlvc := hlv
        generalize partsD nd ps = Z at *
        have w1 : IntKind.i64.wrap ((Z : Int) + 1) = (Z : Int) + 1 := by rw [IntKind.wrap_i64]; omega
        have w2 : IntKind.i64.wrap ((Z : Int) + 1 + 1) = (Z : Int) + 1 + 1 := by rw [IntKind.wrap_i64]; omega
        have hW := hid (And.intro w1 w2)
        clear hlt
        by_cases hk7 : k = 7
        · have hq : (k == 7) = true := by simpa using hk7
          rw [if_pos hk7] at HASK
          by_cases hla : lv < asked
          · rw [if_pos hla] at HASK
            have hcmp : (lv : Int) < ask := by have := HAK.out; omega
            clear hk7 hla
            go_wp2_with (go_at_call 90; refine (hlv _).mono ?_; rintro e W3 ⟨rfl, hb3⟩)
            go_ret
            rw [HASK.out]
            exact ⟨rfl, HR.out _ (HB.out.trans (hb3.mono (by have := HB.out.size; omega)))⟩
          · rw [if_neg hla] at HASK
            have hcmp : ¬ (lv : Int) < ask := by have := HAK.out; omega
            clear hk7 hla
            go_wp2_with (go_at_call 90; refine (hlv _).mono ?_; rintro e W3 ⟨rfl, hb3⟩)
            go_ret
            rw [HASK.out]
            exact ⟨rfl, HR.out _ (HB.out.trans (hb3.mono (by have := HB.out.size; omega)))⟩
        · have hq : (k == 7) = false := by simpa using hk7
          rw [if_neg hk7] at HASK
          by_cases hla : lv < asked
          · rw [if_pos hla] at HASK
            have hcmp : (lv : Int) < ask := by have := HAK.out; omega
            clear hk7 hla
            go_wp2_with (go_at_call 90; refine (hlv _).mono ?_; rintro e W3 ⟨rfl, hb3⟩)
            go_ret
            rw [HASK.out]
            exact ⟨rfl, HR.out _ (HB.out.trans (hb3.mono (by have := HB.out.size; omega)))⟩
          · rw [if_neg hla] at HASK
            have hcmp : ¬ (lv : Int) < ask := by have := HAK.out; omega
            clear hk7 hla
            go_wp2_with (go_at_call 90; refine (hlv _).mono ?_; rintro e W3 ⟨rfl, hb3⟩)
            go_ret
            rw [HASK.out]
            exact ⟨rfl, HR.out _ (HB.out.trans (hb3.mono (by have := HB.out.size; omega)))⟩
end Go.Proofs.YtfljcfdfgojdoaaGreatDoor.Sh.Rf

namespace Go.Proofs.YtfljcfdfgojdoaaGreatDoor.Sh.Rf
open Go.RowKit Go.Lib Go.Proofs.YtfljcfdfgojdoaaGreatDoor Go.Proofs.YtfljcfdfgojdoaaGreatDoor.Sh

/-- the fourteen cells of a map in a block -/
theorem fourteen_of {W : World} {g : Nat} {k : Int} {r : Rw} {o : List B} {ad : Option Addr} {n cap : Nat} {mn mx : Int} (h : W.heap[g]? = some (.cells (Mw.cs ⟨k, r, o, ad, n, cap, mn, mx⟩) 36 (0, 0))) :
    W.cell? ⟨g, 0, none⟩ = some (.int .i64 k) ∧ W.cell? ⟨g, 1, none⟩ = some (.int .i64 r.k) ∧ W.cell? ⟨g, 2, none⟩ = some (.string ⟨r.x.toArray⟩) ∧ W.cell? ⟨g, 3, none⟩ = some (.int .u64 r.s.a) ∧ W.cell? ⟨g, 4, none⟩ = some (.int .u64 r.s.b) ∧ W.cell? ⟨g, 5, none⟩ = some (.int .u64 r.s.c) ∧ W.cell? ⟨g, 6, none⟩ = some (.int .u64 r.s.d) ∧ W.cell? ⟨g, 7, none⟩ = some (.slice r.ad r.n r.cap) ∧ W.cell? ⟨g, 8, none⟩ = some (.int .i64 r.mn) ∧ W.cell? ⟨g, 9, none⟩ = some (.int .i64 r.mx) ∧
    W.cell? ⟨g, 10, none⟩ = some (.string ⟨o.toArray⟩) ∧ W.cell? ⟨g, 11, none⟩ = some (.slice ad n cap) ∧ W.cell? ⟨g, 12, none⟩ = some (.int .i64 mn) ∧ W.cell? ⟨g, 13, none⟩ = some (.int .i64 mx) :=
  ⟨cell_blk h rfl, cell_blk h rfl, cell_blk h rfl, cell_blk h rfl, cell_blk h rfl, cell_blk h rfl, cell_blk h rfl, cell_blk h rfl, cell_blk h rfl, cell_blk h rfl, cell_blk h rfl, cell_blk h rfl, cell_blk h rfl, cell_blk h rfl⟩
abbrev mneeds : Array Value := #[.int .i64 1, .int .i64 2, .int .i64 3, .int .i64 0]
theorem mneed_at (k : Int) : mneeds[mlevK k]? = some (.int .i64 (mneedK k)) := by
  by_cases h4 : k = 4
  · subst h4; rfl
  · by_cases h3 : k = 3
    · subst h3; rfl
    · by_cases h5 : k = 5
      · subst h5; rfl
      · have e1 : mlevK k = 3 := by unfold mlevK; simp [h5, h3, h4]
        have e2 : mneedK k = 0 := by unfold mneedK; simp [h5, h3, h4]
        rw [e1, e2]; rfl
theorem mlevK_le (k : Int) : mlevK k ≤ 3 := by
  unfold mlevK
  split
  · omega
  · split
    · omega
    · split <;> omega
theorem mneedK_le (k : Int) : mneedK k ≤ 5 := by
  unfold mneedK
  split
  · omega
  · split
    · omega
    · split <;> omega
theorem mpD_mk (k : Int) (r : Re) (o : List B) (ps : List Mp) (mn mx : Int) : mpD (.mk k r o ps mn mx) = mpartsD (mneedK k) ps := by rw [mpD]
set_option maxRecDepth 100000 in
set_option maxHeartbeats 4000000 in
theorem mdeepR_any : ∀ (N : Nat) (r : Mp), SizeOf.sizeOf r < N → mpD r ≤ 1000000 → ∀ (asked : Nat), asked ≤ 5 → ∀ (F : Nat → Prop) (y : Mw) (w : World), (∀ g, F g → g < w.heap.size) → MpG F w r y →
    Calls Tryz.prog 44 #[.agg y.cs, .int .i64 asked] w fun e w' => e = .returned (.int .i64 (maskD r asked : Nat)) ∧ Below w.heap.size w w' := by
  intro N
  induction N with
  | zero => intro r h; omega
  | succ N ih =>
    intro r hN hD asked ha F y w hFw h
    obtain ⟨k, x, s, ps, mn, mx⟩ := r
    obtain ⟨e1, e2, e3, e4, e5, hre, hlen, ho⟩ := h.open
    obtain ⟨k', yr, o', ad, n', cap, mn', mx'⟩ := y
    dsimp only at e1 e2 e3 e4 e5 hre ho
    subst e1 e2 e3 e4 e5
    have hsub : ∀ p ∈ ps, SizeOf.sizeOf p < N := fun p hp => by
      have h1 := List.sizeOf_lt_of_mem hp
      simp only [Mp.mk.sizeOf_spec] at hN
      omega
    rw [mpD_mk] at hD
    have hpd : mpartsD (mneedK k') ps ≤ 1000000 := hD
    have hpart : ∀ p ∈ ps, mpD p ≤ 1000000 := fun p hp => by
      have h1 := mpartsD_mem (asked := mneedK k') hp
      have h2 : mpD p ≤ maskD p (mneedK k') := Nat.le_add_right _ _
      omega
    have IH := hid (fun p (hp : p ∈ ps) => ih p (hsub p hp) (hpart p hp) (mneedK k') (mneedK_le k'))
    have HPD := hid hpd
    have HFW := hid hFw
    have HO := hid ho
    unfold maxLen at hlen
    have HASK := hid (show maskD (.mk k' x o' ps mn' mx') asked = mpartsD (mneedK k') ps + (if mlevK k' < asked then 1 else 0) from by unfold maskD; rw [mpD_mk]; rfl)
    have hblk : ((w.alloc (.cells (Mw.cs ⟨k', yr, o', ad, ps.length, cap, mn', mx'⟩) 36)).alloc (.cells mneeds 3)).heap[w.heap.size]? = some (.cells (Mw.cs ⟨k', yr, o', ad, ps.length, cap, mn', mx'⟩) 36 (0, 0)) := heap_alloc2_old _ _ _
    have hnd : ((w.alloc (.cells (Mw.cs ⟨k', yr, o', ad, ps.length, cap, mn', mx'⟩) 36)).alloc (.cells mneeds 3)).heap[w.heap.size + 1]? = some (.cells mneeds 3 (0, 0)) := heap_alloc2_new _ _ _
    have hsz0 : ((w.alloc (.cells (Mw.cs ⟨k', yr, o', ad, ps.length, cap, mn', mx'⟩) 36)).alloc (.cells mneeds 3)).heap.size = w.heap.size + 2 := by simp
    have HB0 := hid (show Below w.heap.size w ((w.alloc (.cells (Mw.cs ⟨k', yr, o', ad, ps.length, cap, mn', mx'⟩) 36)).alloc (.cells mneeds 3)) from ((Below.refl _ w).alloc (Nat.le_refl _) _).alloc (by simp) _)
    have HBK := hid hblk
    have HND := hid hnd
    obtain ⟨lv, hl⟩ : ∃ lv : Nat, lv = mlevK k' := ⟨_, rfl⟩
    obtain ⟨nd, hn⟩ : ∃ nd : Nat, nd = mneedK k' := ⟨_, rfl⟩
    have hlv := fun W => mlevelR_any ⟨k', yr, o', ad, ps.length, cap, mn', mx'⟩ W
    dsimp only at hlv
    have hat := mneed_at k'
    rw [← hl] at hat HASK hlv
    rw [← hn] at hat HASK IH HPD
    have hl5 : lv ≤ 3 := by rw [hl]; exact mlevK_le k'
    have HAT := hid hat
    obtain ⟨ask, hak⟩ : ∃ ask : Int, ask = (asked : Int) := ⟨_, rfl⟩
    have HAK := hid hak
    rw [← hak]
    clear h ih hsub hN hFw ho hblk hnd hpd hpart hD hl hn hat hak hre
    go_enter Tryz.func44, Tryz.ntmps44
    go_upto_region 3 with fail
    generalize (w.alloc (.cells (Mw.cs ⟨k', yr, o', ad, ps.length, cap, mn', mx'⟩) 36)).alloc (.cells mneeds 3) = W0 at *
    go_wp2
    go_loopw [5, 7] (fun vn vi wr => ∃ i : Nat, i ≤ ps.length ∧ vi = .int .i64 i ∧ vn = .int .i64 (mpartsD nd (ps.take i) : Nat) ∧ Hid (Below (w.heap.size + 2) W0 wr)) (fun _ vi _ => ps.length - (RowKit.intOf vi).toNat)
    case atStart => exact ⟨0, Nat.zero_le _, rfl, by rw [List.take_zero, mpartsD]; rfl, hid (Below.refl _ _)⟩
    case round =>
      obtain ⟨i, hi, rfl, rfl, HB⟩ := hrel
      have hwr : Below w.heap.size w wr := HB0.out.trans (HB.out.mono (by omega))
      have hsz : w.heap.size + 2 ≤ wr.heap.size := by have := HB.out.size; omega
      have hbk := (HB.out.block w.heap.size (by omega)).trans HBK.out
      obtain ⟨c0, c1, c2, c3, c4, c5, c6, c7, c8, c9, c10, c11, c12, c13⟩ := fourteen_of hbk
      by_cases hlt : i < ps.length
      · have hgi : (i : Int) < (ps.length : Int) := by omega
        obtain ⟨g, off, rfl, hgF, hparts⟩ := HO.out (by rintro rfl; simp at hlt)
        obtain ⟨z, hr1, hc⟩ := hparts.at (List.getElem?_eq_getElem hlt)
        have HLOW := hid (show ∀ W, Below wr.heap.size wr W → Below w.heap.size w W from fun W hW => hwr.trans (hW.mono hwr.size))
        have HFQ := hid (show ∀ W, Below wr.heap.size wr W → (fun W : World => (W.cell? ⟨g, off + i * 14, none⟩ = some (.int .i64 z.k) ∧ W.cell? ⟨g, off + i * 14 + 1, none⟩ = some (.int .i64 z.r.k) ∧ W.cell? ⟨g, off + i * 14 + 2, none⟩ = some (.string ⟨z.r.x.toArray⟩) ∧ W.cell? ⟨g, off + i * 14 + 3, none⟩ = some (.int .u64 z.r.s.a) ∧ W.cell? ⟨g, off + i * 14 + 4, none⟩ = some (.int .u64 z.r.s.b) ∧ W.cell? ⟨g, off + i * 14 + 5, none⟩ = some (.int .u64 z.r.s.c) ∧ W.cell? ⟨g, off + i * 14 + 6, none⟩ = some (.int .u64 z.r.s.d) ∧ W.cell? ⟨g, off + i * 14 + 7, none⟩ = some (.slice z.r.ad z.r.n z.r.cap) ∧ W.cell? ⟨g, off + i * 14 + 8, none⟩ = some (.int .i64 z.r.mn) ∧ W.cell? ⟨g, off + i * 14 + 9, none⟩ = some (.int .i64 z.r.mx) ∧ W.cell? ⟨g, off + i * 14 + 10, none⟩ = some (.string ⟨z.o.toArray⟩) ∧ W.cell? ⟨g, off + i * 14 + 11, none⟩ = some (.slice z.ad z.n z.cap) ∧ W.cell? ⟨g, off + i * 14 + 12, none⟩ = some (.int .i64 z.mn) ∧ W.cell? ⟨g, off + i * 14 + 13, none⟩ = some (.int .i64 z.mx)) ∧ (W.cell? ⟨w.heap.size, 0, none⟩ = some (.int .i64 k') ∧ W.cell? ⟨w.heap.size, 1, none⟩ = some (.int .i64 yr.k) ∧ W.cell? ⟨w.heap.size, 2, none⟩ = some (.string ⟨yr.x.toArray⟩) ∧ W.cell? ⟨w.heap.size, 3, none⟩ = some (.int .u64 yr.s.a) ∧ W.cell? ⟨w.heap.size, 4, none⟩ = some (.int .u64 yr.s.b) ∧ W.cell? ⟨w.heap.size, 5, none⟩ = some (.int .u64 yr.s.c) ∧ W.cell? ⟨w.heap.size, 6, none⟩ = some (.int .u64 yr.s.d) ∧ W.cell? ⟨w.heap.size, 7, none⟩ = some (.slice yr.ad yr.n yr.cap) ∧ W.cell? ⟨w.heap.size, 8, none⟩ = some (.int .i64 yr.mn) ∧ W.cell? ⟨w.heap.size, 9, none⟩ = some (.int .i64 yr.mx) ∧ W.cell? ⟨w.heap.size, 10, none⟩ = some (.string ⟨o'.toArray⟩) ∧ W.cell? ⟨w.heap.size, 11, none⟩ = some (.slice (some ⟨g, off, none⟩) ps.length cap) ∧ W.cell? ⟨w.heap.size, 12, none⟩ = some (.int .i64 mn') ∧ W.cell? ⟨w.heap.size, 13, none⟩ = some (.int .i64 mx')) ∧ W.cell? ⟨w.heap.size + 1, lv, none⟩ = some (.int .i64 (nd : Nat))) W from fun W hW => by
          exact ⟨elem14_of (W := W) (g := g) (o := off + i * 14) fun j v hv => ((HLOW.out W hW).cell (p := ⟨g, off + i * 14 + j, none⟩) (HFW.out g hgF)).trans (hc j v hv), fourteen_of ((hW.block w.heap.size (by omega)).trans hbk), cell_blk ((hW.block (w.heap.size + 1) (by omega)).trans ((HB.out.block (w.heap.size + 1) (by omega)).trans HND.out)) HAT.out⟩)
        have hcall := fun (W : World) (hW : Below wr.heap.size wr W) => IH.out _ (List.getElem_mem hlt) F _ W (fun g hg => by have := HFW.out g hg; have := (HLOW.out W hW).size; omega) (hr1.below HFW.out (HLOW.out W hW))
        have HCALL := hid hcall
        have HD := hid ((Below.refl wr.heap.size wr).drew)
        have HSN := hid (show mpartsD nd (ps.take (i + 1)) = max (mpartsD nd (ps.take i)) (maskD ps[i] nd) by rw [take_snoc hlt, mpartsD_snoc])
        have hl6 : (lv : Int) < 4 := by omega
        clear hc hr1 hcall c0 c1 c2 c3 c4 c5 c6 c7 c8 c9 c10 c12 c13
        generalize maskD ps[i] nd = Y at *
        generalize mpartsD nd (ps.take i) = Z at *
        go_upto_region 6 with fail
        clear c11
        go_region_held3 (fun W : World => (W.cell? ⟨g, off + i * 14, none⟩ = some (.int .i64 z.k) ∧ W.cell? ⟨g, off + i * 14 + 1, none⟩ = some (.int .i64 z.r.k) ∧ W.cell? ⟨g, off + i * 14 + 2, none⟩ = some (.string ⟨z.r.x.toArray⟩) ∧ W.cell? ⟨g, off + i * 14 + 3, none⟩ = some (.int .u64 z.r.s.a) ∧ W.cell? ⟨g, off + i * 14 + 4, none⟩ = some (.int .u64 z.r.s.b) ∧ W.cell? ⟨g, off + i * 14 + 5, none⟩ = some (.int .u64 z.r.s.c) ∧ W.cell? ⟨g, off + i * 14 + 6, none⟩ = some (.int .u64 z.r.s.d) ∧ W.cell? ⟨g, off + i * 14 + 7, none⟩ = some (.slice z.r.ad z.r.n z.r.cap) ∧ W.cell? ⟨g, off + i * 14 + 8, none⟩ = some (.int .i64 z.r.mn) ∧ W.cell? ⟨g, off + i * 14 + 9, none⟩ = some (.int .i64 z.r.mx) ∧ W.cell? ⟨g, off + i * 14 + 10, none⟩ = some (.string ⟨z.o.toArray⟩) ∧ W.cell? ⟨g, off + i * 14 + 11, none⟩ = some (.slice z.ad z.n z.cap) ∧ W.cell? ⟨g, off + i * 14 + 12, none⟩ = some (.int .i64 z.mn) ∧ W.cell? ⟨g, off + i * 14 + 13, none⟩ = some (.int .i64 z.mx)) ∧ (W.cell? ⟨w.heap.size, 0, none⟩ = some (.int .i64 k') ∧ W.cell? ⟨w.heap.size, 1, none⟩ = some (.int .i64 yr.k) ∧ W.cell? ⟨w.heap.size, 2, none⟩ = some (.string ⟨yr.x.toArray⟩) ∧ W.cell? ⟨w.heap.size, 3, none⟩ = some (.int .u64 yr.s.a) ∧ W.cell? ⟨w.heap.size, 4, none⟩ = some (.int .u64 yr.s.b) ∧ W.cell? ⟨w.heap.size, 5, none⟩ = some (.int .u64 yr.s.c) ∧ W.cell? ⟨w.heap.size, 6, none⟩ = some (.int .u64 yr.s.d) ∧ W.cell? ⟨w.heap.size, 7, none⟩ = some (.slice yr.ad yr.n yr.cap) ∧ W.cell? ⟨w.heap.size, 8, none⟩ = some (.int .i64 yr.mn) ∧ W.cell? ⟨w.heap.size, 9, none⟩ = some (.int .i64 yr.mx) ∧ W.cell? ⟨w.heap.size, 10, none⟩ = some (.string ⟨o'.toArray⟩) ∧ W.cell? ⟨w.heap.size, 11, none⟩ = some (.slice (some ⟨g, off, none⟩) ps.length cap) ∧ W.cell? ⟨w.heap.size, 12, none⟩ = some (.int .i64 mn') ∧ W.cell? ⟨w.heap.size, 13, none⟩ = some (.int .i64 mx')) ∧ W.cell? ⟨w.heap.size + 1, lv, none⟩ = some (.int .i64 (nd : Nat))) (first | exact HFQ.out _ HB4.out | exact HFQ.out _ HB3.out | exact HFQ.out _ HD.out | exact HFQ.out _ (Below.refl _ _)) ((first | (go_at_call 91; refine (hlv _).mono ?_; rintro e W3 ⟨rfl, hb3⟩; have HB3 := hid (HD.out.trans (hb3.mono HD.out.size)); clear hb3) | (go_at_call 44; refine (HCALL.out _ HB3.out).mono ?_; rintro e W4 ⟨rfl, hb4⟩; have HB4 := hid (HB3.out.trans (hb4.mono HB3.out.size)); clear hb4)))
        go_wp2
        case roundEnd => exact ⟨⟨i + 1, by omega, by go_num, by rw [HSN.out]; congr 1; omega, hid (HB.out.trans (HB4.out.mono hsz))⟩, by simp [RowKit.intOf]; omega⟩
      · obtain rfl : i = ps.length := by omega
        have HN := hid (List.take_length (l := ps))
        rw [HN.out]
        have HZ := HPD.out
        have HR := hid (show ∀ (W : World), Below (w.heap.size + 2) W0 W → Below w.heap.size w W from fun W hW => HB0.out.trans (hW.mono (by omega)))
        generalize mpartsD nd ps = Z at *
        have w1 : IntKind.i64.wrap ((Z : Int) + 1) = (Z : Int) + 1 := by rw [IntKind.wrap_i64]; omega
        clear hlt
        by_cases hla : lv < asked
        · rw [if_pos hla] at HASK
          have hcmp : (lv : Int) < ask := by have := HAK.out; omega
          clear hla
          go_wp2_with (go_at_call 91; refine (hlv _).mono ?_; rintro e W3 ⟨rfl, hb3⟩)
          go_ret
          rw [HASK.out]
          exact ⟨rfl, HR.out _ (HB.out.trans (hb3.mono (by have := HB.out.size; omega)))⟩
        · rw [if_neg hla] at HASK
          have hcmp : ¬ (lv : Int) < ask := by have := HAK.out; omega
          clear hla
          go_wp2_with (go_at_call 91; refine (hlv _).mono ?_; rintro e W3 ⟨rfl, hb3⟩)
          go_ret
          rw [HASK.out]
          exact ⟨rfl, HR.out _ (HB.out.trans (hb3.mono (by have := HB.out.size; omega)))⟩
end Go.Proofs.YtfljcfdfgojdoaaGreatDoor.Sh.Rf
