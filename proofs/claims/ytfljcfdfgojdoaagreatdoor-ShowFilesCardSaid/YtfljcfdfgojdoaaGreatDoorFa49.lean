/-
  The reference's end and File: what is written of items. (Printed by genIy.py.)
-/
import Derived.Test.YtfljcfdfgojdoaaGreatDoorFa45
import Derived.Test.YtfljcfdfgojdoaaGreatDoorFa38
import Derived.Test.YtfljcfdfgojdoaaGreatDoorFa48
namespace Go.Proofs.YtfljcfdfgojdoaaGreatDoor.Sh.Rf
open Go.RowKit Go.Lib Go.Proofs.YtfljcfdfgojdoaaGreatDoor Go.Proofs.YtfljcfdfgojdoaaGreatDoor.Sh

set_option maxRecDepth 100000 in
set_option maxHeartbeats 1000000 in
theorem endR_any (l : List B) (n : Nat) (w : World) (hl : l.length ≤ 1099511627776) (hn : n ≤ 1000000) :
    Calls Tryz.prog 46 #[.string ⟨l.toArray⟩, .int .i64 n] w (TextPost w (endM l n)) := by
  have hs : (⟨l.toArray⟩ : ByteArray).size = l.length := str_size l
  by_cases h1 : 32 < n
  · have h1' : (32 : Int) < (n : Int) := by omega
    have HE := hid (show endM l n = ([], 8) by unfold endM; rw [if_pos h1])
    clear h1 hs
    go_enter Tryz.func46, Tryz.ntmps46
    go_wp2
    go_ret2
    rw [HE.out]
    exact ⟨rfl, Below.refl _ _⟩
  · have h1' : ¬ (32 : Int) < (n : Int) := by omega
    by_cases h2 : 65536 < l.length
    · have h2' : (65536 : Int) < (l.length : Int) := by omega
      have h3' : (65536 : Int) < (((⟨l.toArray⟩ : ByteArray).size : Nat) : Int) := by omega
      have HE := hid (show endM l n = ([], 2) by unfold endM; rw [if_neg h1, if_pos h2])
      clear h1 h2 hs
      go_enter Tryz.func46, Tryz.ntmps46
      go_wp2
      go_ret2
      rw [HE.out]
      exact ⟨rfl, Below.refl _ _⟩
    · have h2' : ¬ (65536 : Int) < (l.length : Int) := by omega
      have h3' : ¬ (65536 : Int) < (((⟨l.toArray⟩ : ByteArray).size : Nat) : Int) := by omega
      have HE := hid (show endM l n = (l, 0) by unfold endM; rw [if_neg h1, if_neg h2])
      clear h1 h2 hs
      go_enter Tryz.func46, Tryz.ntmps46
      go_wp2
      go_ret2
      rw [HE.out]
      exact ⟨rfl, Below.refl _ _⟩
theorem askD_zero (r : Re) : askD r 0 = reD r := by unfold askD; rw [if_neg (Nat.not_lt_zero _)]; rfl
theorem maskD_zero (r : Mp) : maskD r 0 = mpD r := by unfold maskD; rw [if_neg (Nat.not_lt_zero _)]; rfl
theorem flat_le {f : It → List B} {K : Nat} : ∀ {l : List It}, (∀ x ∈ l, (f x).length ≤ K) → (l.flatMap f).length ≤ l.length * K
  | [], _ => by simp
  | x :: l, h => by
    rw [List.flatMap_cons, List.length_append, List.length_cons, Nat.succ_mul]
    have h1 := h x List.mem_cons_self
    have h2 := flat_le (l := l) (fun y hy => h y (List.mem_cons_of_mem _ hy))
    omega
/-- an item as the reference's File asks for it -/
structure NdIt (x : It) : Prop where
  r : nodes x.re ≤ 1000000
  l : nodes x.left ≤ 1000000
  q : nodes x.right ≤ 1000000
  m : NdMp x.map
  o : x.out.length ≤ 600
  b : itX x = true → (reD x.re ≤ 1000000 ∧ reD x.left ≤ 1000000 ∧ reD x.right ≤ 1000000 ∧ mpD x.map ≤ 1000000) ∧ (itemW setS x).length ≤ 1000000000
theorem flat_snoc {f : It → List B} {l : List It} {i : Nat} (h : i < l.length) : (l.take (i + 1)).flatMap f = (l.take i).flatMap f ++ f l[i] := by
  rw [take_snoc h, List.flatMap_append, List.flatMap_cons, List.flatMap_nil, List.append_nil]
theorem dF_take {l : List It} {i : Nat} (h : i < l.length) : dF (l.take (i + 1)) = max (dF (l.take i)) (itemD l[i]) := by rw [take_snoc h, dF_snoc]
/-- what the loop holds: the text and the depth so far -/
structure UpTo (l : List It) (i : Nat) (X : List B) (N : Nat) : Prop where
  x : X = (l.take i).flatMap (itemW setS)
  n : N = dF (l.take i)
  a : (l.take i).all itX = true
theorem UpTo.len {l : List It} {i : Nat} {X : List B} {N : Nat} (h : UpTo l i X N) (hl : l.length ≤ 256) (hb : ∀ x ∈ l, itX x = true → (itemW setS x).length ≤ 1000000000) : X.length ≤ 256000000000 := by
  rw [h.x]
  have h1 : ((l.take i).flatMap (itemW setS)).length ≤ (l.take i).length * 1000000000 := flat_le fun x hx => hb x (List.mem_of_mem_take hx) (List.all_eq_true.1 h.a x hx)
  have h2 : (l.take i).length ≤ l.length := List.length_take_le' ..
  have h3 : (l.take i).length * 1000000000 ≤ 256 * 1000000000 := Nat.mul_le_mul_right _ (by omega)
  omega
theorem UpTo.deep {l : List It} {i : Nat} {X : List B} {N : Nat} (h : UpTo l i X N) (hb : ∀ x ∈ l, itX x = true → itemD x ≤ 1000000) : N ≤ 1000000 := by
  rw [h.n]
  exact dF_le fun x hx => hb x (List.mem_of_mem_take hx) (List.all_eq_true.1 h.a x hx)
theorem UpTo.step {l : List It} {i : Nat} {X : List B} {N : Nat} (h : UpTo l i X N) (hi : i < l.length) (hx : itX l[i] = true) : UpTo l (i + 1) (X ++ itemW setS l[i]) (max N (itemD l[i])) :=
  ⟨by rw [flat_snoc hi, ← h.x], by rw [dF_take hi, ← h.n], all_take hi h.a hx⟩
set_option maxRecDepth 100000 in
set_option maxHeartbeats 16000000 in
theorem fileR_any {F : Nat → Prop} {l : List It} {ad : Option Addr} {cap : Nat} {w : World} (hFw : ∀ g, F g → g < w.heap.size) (hl : ItsR F w l ad) (ht : ∀ x ∈ l, TxIt x) (hs : ∀ x ∈ l, SeIt x) (hn : ∀ x ∈ l, NdIt x) :
    Calls Tryz.prog 13 #[.slice ad l.length cap] w (TextPost w (showFile l)) := by
  have HFW := hid hFw
  have HI := hid hl
  have HT := hid ht
  have HS := hid hs
  have HND := hid hn
  have hlen : l.length ≤ 9223372036854775807 := by have := hl.len; unfold maxLen at this; omega
  by_cases h256 : 256 < l.length
  · have HE := hid (show showFile l = ([], 2) by unfold showFile; rw [if_pos h256])
    have hgt : (256 : Int) < (l.length : Int) := by omega
    clear hFw hl ht hs hn
    go_enter Tryz.func13, Tryz.ntmps13
    go_wp2
    go_ret2
    rw [HE.out]
    exact ⟨rfl, Below.refl _ _⟩
  · have hgt : ¬ ((256 : Int) < (l.length : Int)) := by omega
    have HE := hid (show showFile l = if l.all itX = true then endM (l.flatMap (itemW setS)) (dF l) else ([], 1) by unfold showFile; rw [if_neg h256]; rfl)
    have H256 := hid (show l.length ≤ 256 by omega)
    clear hFw hl ht hs hn h256
    go_enter Tryz.func13, Tryz.ntmps13
    go_wp2
    go_loopw [4, 5, 6] (fun vo vn vi wr => ∃ (i : Nat) (X : List B) (N : Nat), i ≤ l.length ∧ vi = .int .i64 i ∧ vo = .string ⟨X.toArray⟩ ∧ vn = .int .i64 (N : Int) ∧ Hid (UpTo l i X N) ∧ Hid (Below w.heap.size w wr)) (fun _ _ vi _ => l.length - (RowKit.intOf vi).toNat)
    case atStart => exact ⟨0, [], 0, Nat.zero_le _, rfl, rfl, rfl, hid ⟨rfl, rfl, rfl⟩, hid (Below.refl _ _)⟩
    case round =>
      obtain ⟨i, X, N, hi, rfl, rfl, rfl, HU, HBW⟩ := hrel
      have hsz := HBW.out.size
      have hXl := HU.out.len H256.out fun x hx h => ((HND.out x hx).b h).2
      have hNd := HU.out.deep fun x hx h => by have := ((HND.out x hx).b h).1; unfold itemD; omega
      by_cases hlt : i < l.length
      · obtain ⟨g, off, rfl, hgF, hparts⟩ := HI.out.at' (by rintro rfl; simp at hlt)
        obtain ⟨y, hy, hr⟩ := hparts i l[i] (List.getElem?_eq_getElem hlt)
        have HR := hid (show wr.rangeAt g (off + i * 46) y.cs.toList from fun j v hv => (HBW.out.cell (p := ⟨g, off + i * 46 + j, none⟩) (HFW.out g hgF)).trans (hr j v hv))
        have HYW := hid (fun (W : World) (hW : Below w.heap.size w W) => hy.below HFW.out hW)
        have HLT := hid (fun (W : World) (hW : Below w.heap.size w W) => fun (g : Nat) (hg : F g) => Nat.lt_of_lt_of_le (HFW.out g hg) hW.size)
        have htx := HT.out l[i] (List.getElem_mem hlt)
        have hse := HS.out l[i] (List.getElem_mem hlt)
        have hnd := HND.out l[i] (List.getElem_mem hlt)
        have HRI := hid (fun (W : World) (hW : Below w.heap.size w W) => ritemR_any (HLT.out W hW) (HYW.out W hW) htx hnd.r hnd.l hnd.q hnd.m (by have := hnd.o; omega))
        have hgi : (i : Int) < (l.length : Int) := by omega
        have HST := hid (fun hx : itX l[i] = true => HU.out.step hlt hx)
        have HNO := hid (fun hx : itX l[i] = false => (show showFile l = ([], 1) by rw [HE.out, all_not hlt hx]; rfl))
        have HSE := hid hse
        have HNX := hid hnd
        clear hparts hr hy htx hse hnd hgF
        generalize l[i] = x at *
        obtain ⟨yk, yn, yr, ym, yo, yb, ya, yl, yq⟩ := y
        go_upto_region 9 with (first | (refine wpList_load_part 65 (.tmp 19) rfl (by kernel_rfl) g (off + i * 46) rfl (Iw.cs ⟨yk, yn, yr, ym, yo, yb, ya, yl, yq⟩) _ HR.out Tryz.underlying65 rfl 46 info46 rfl ?_) | (refine wpList_store_newN rfl 65 (.tmp 7) (.tmp 20) rfl 46 info46 65 itZ rfl (Iw.cs ⟨yk, yn, yr, ym, yo, yb, ya, yl, yq⟩) wr.heap.size rfl rfl rfl (itC_size _ _ _ _ _ _ _ _ _) (itC_one _ _ _ _ _ _ _ _ _) ?_))
        have HX := hid (show (wr.alloc (.cells (Iw.cs ⟨yk, yn, yr, ym, yo, yb, ya, yl, yq⟩) 65)).heap[wr.heap.size]? = some (.cells (Iw.cs ⟨yk, yn, yr, ym, yo, yb, ya, yl, yq⟩) 65 (0, 0)) from heap_alloc_new _ _)
        have HLW := hid (HBW.out.alloc hsz (.cells (Iw.cs ⟨yk, yn, yr, ym, yo, yb, ya, yl, yq⟩) 65))
        generalize wr.alloc (.cells (Iw.cs ⟨yk, yn, yr, ym, yo, yb, ya, yl, yq⟩) 65) = W1 at *
        generalize hP : wr.heap.size = P at *
        clear hP
        have HRI1 := hid (HRI.out _ HLW.out)
        rcases Bool.eq_false_or_eq_true (itX x) with hx | hx
        · have hri := HRI1.out
          rw [hx] at hri
          have HRT := hid (RtIt.of hx)
          have HBD := hid (HNX.out.b hx)
          have HU2 := hid (HST.out hx)
          clear hx HST HNO HRI HRI1
          go_upto_region 11 with (first | (refine wpList_load_blk rfl 65 (.tmp 7) rfl 46 info46 _ Tryz.underlying65 rfl P rfl 65 (Iw.cs ⟨yk, yn, yr, ym, yo, yb, ya, yl, yq⟩) HX.out rfl ?_) | (go_at_call 42; refine hri.mono ?_; clear hri; rintro e W2 ⟨rfl, hb⟩; replace HX := hid ((hb.block _ (lt_of_heap HX.out)).trans HX.out); replace HLW := hid (HLW.out.trans (hb.mono HLW.out.size)); clear hb))
          have HSQ := hid (show ∀ W, Below W2.heap.size W2 W → (fun W : World => W.cell? ⟨P, 2, none⟩ = some (.int .i64 yr.k) ∧ W.cell? ⟨P, 3, none⟩ = some (.string ⟨yr.x.toArray⟩) ∧ W.cell? ⟨P, 4, none⟩ = some (.int .u64 yr.s.a) ∧ W.cell? ⟨P, 5, none⟩ = some (.int .u64 yr.s.b) ∧ W.cell? ⟨P, 6, none⟩ = some (.int .u64 yr.s.c) ∧ W.cell? ⟨P, 7, none⟩ = some (.int .u64 yr.s.d) ∧ W.cell? ⟨P, 8, none⟩ = some (.slice yr.ad yr.n yr.cap) ∧ W.cell? ⟨P, 9, none⟩ = some (.int .i64 yr.mn) ∧ W.cell? ⟨P, 10, none⟩ = some (.int .i64 yr.mx) ∧ W.cell? ⟨P, 11, none⟩ = some (.int .i64 ym.k) ∧ W.cell? ⟨P, 12, none⟩ = some (.int .i64 ym.r.k) ∧ W.cell? ⟨P, 13, none⟩ = some (.string ⟨ym.r.x.toArray⟩) ∧ W.cell? ⟨P, 14, none⟩ = some (.int .u64 ym.r.s.a) ∧ W.cell? ⟨P, 15, none⟩ = some (.int .u64 ym.r.s.b) ∧ W.cell? ⟨P, 16, none⟩ = some (.int .u64 ym.r.s.c) ∧ W.cell? ⟨P, 17, none⟩ = some (.int .u64 ym.r.s.d) ∧ W.cell? ⟨P, 18, none⟩ = some (.slice ym.r.ad ym.r.n ym.r.cap) ∧ W.cell? ⟨P, 19, none⟩ = some (.int .i64 ym.r.mn) ∧ W.cell? ⟨P, 20, none⟩ = some (.int .i64 ym.r.mx) ∧ W.cell? ⟨P, 21, none⟩ = some (.string ⟨ym.o.toArray⟩) ∧ W.cell? ⟨P, 22, none⟩ = some (.slice ym.ad ym.n ym.cap) ∧ W.cell? ⟨P, 23, none⟩ = some (.int .i64 ym.mn) ∧ W.cell? ⟨P, 24, none⟩ = some (.int .i64 ym.mx) ∧ W.cell? ⟨P, 28, none⟩ = some (.int .i64 yl.k) ∧ W.cell? ⟨P, 29, none⟩ = some (.string ⟨yl.x.toArray⟩) ∧ W.cell? ⟨P, 30, none⟩ = some (.int .u64 yl.s.a) ∧ W.cell? ⟨P, 31, none⟩ = some (.int .u64 yl.s.b) ∧ W.cell? ⟨P, 32, none⟩ = some (.int .u64 yl.s.c) ∧ W.cell? ⟨P, 33, none⟩ = some (.int .u64 yl.s.d) ∧ W.cell? ⟨P, 34, none⟩ = some (.slice yl.ad yl.n yl.cap) ∧ W.cell? ⟨P, 35, none⟩ = some (.int .i64 yl.mn) ∧ W.cell? ⟨P, 36, none⟩ = some (.int .i64 yl.mx) ∧ W.cell? ⟨P, 37, none⟩ = some (.int .i64 yq.k) ∧ W.cell? ⟨P, 38, none⟩ = some (.string ⟨yq.x.toArray⟩) ∧ W.cell? ⟨P, 39, none⟩ = some (.int .u64 yq.s.a) ∧ W.cell? ⟨P, 40, none⟩ = some (.int .u64 yq.s.b) ∧ W.cell? ⟨P, 41, none⟩ = some (.int .u64 yq.s.c) ∧ W.cell? ⟨P, 42, none⟩ = some (.int .u64 yq.s.d) ∧ W.cell? ⟨P, 43, none⟩ = some (.slice yq.ad yq.n yq.cap) ∧ W.cell? ⟨P, 44, none⟩ = some (.int .i64 yq.mn) ∧ W.cell? ⟨P, 45, none⟩ = some (.int .i64 yq.mx)) W from fun W hW => by
            have hh := ((hW.block _ (lt_of_heap HX.out)).trans HX.out)
            obtain ⟨a0, a1, a2, a3, a4, a5, a6, a7, a8⟩ := it_r hh
            obtain ⟨b0, b1, b2, b3, b4, b5, b6, b7, b8, b9, b10, b11, b12, b13⟩ := it_m hh
            obtain ⟨c0, c1, c2, c3, c4, c5, c6, c7, c8, d0, d1, d2, d3, d4, d5, d6, d7, d8⟩ := it_lq hh
            exact ⟨a0, a1, a2, a3, a4, a5, a6, a7, a8, b0, b1, b2, b3, b4, b5, b6, b7, b8, b9, b10, b11, b12, b13, c0, c1, c2, c3, c4, c5, c6, c7, c8, d0, d1, d2, d3, d4, d5, d6, d7, d8⟩)
          have HD := hid ((Below.refl W2.heap.size W2).drew)
          have HD1 := hid (show ∀ (W : World), Below w.heap.size w W → Calls Tryz.prog 43 #[.agg yr.cs, .int .i64 (0 : Nat)] W fun e w' => e = .returned (.int .i64 (reD x.re : Nat)) ∧ Below W.heap.size W w' from fun W hW => by have := deepR_any _ x.re (Nat.lt_succ_self _) HBD.out.1.1 0 (by omega) F _ W (HLT.out W hW) (HYW.out W hW).r; rw [askD_zero] at this; exact this)
          have HD2 := hid (show ∀ (W : World), Below w.heap.size w W → Calls Tryz.prog 43 #[.agg yl.cs, .int .i64 (0 : Nat)] W fun e w' => e = .returned (.int .i64 (reD x.left : Nat)) ∧ Below W.heap.size W w' from fun W hW => by have := deepR_any _ x.left (Nat.lt_succ_self _) HBD.out.1.2.1 0 (by omega) F _ W (HLT.out W hW) (HYW.out W hW).l; rw [askD_zero] at this; exact this)
          have HD3 := hid (show ∀ (W : World), Below w.heap.size w W → Calls Tryz.prog 43 #[.agg yq.cs, .int .i64 (0 : Nat)] W fun e w' => e = .returned (.int .i64 (reD x.right : Nat)) ∧ Below W.heap.size W w' from fun W hW => by have := deepR_any _ x.right (Nat.lt_succ_self _) HBD.out.1.2.2.1 0 (by omega) F _ W (HLT.out W hW) (HYW.out W hW).q; rw [askD_zero] at this; exact this)
          have HD4 := hid (show ∀ (W : World), Below w.heap.size w W → Calls Tryz.prog 44 #[.agg ym.cs, .int .i64 (0 : Nat)] W fun e w' => e = .returned (.int .i64 (mpD x.map : Nat)) ∧ Below W.heap.size W w' from fun W hW => by have := mdeepR_any _ x.map (Nat.lt_succ_self _) HBD.out.1.2.2.2 0 (by omega) F _ W (HLT.out W hW) (HYW.out W hW).m; rw [maskD_zero] at this; exact this)
          have HIT := hid (fun (W : World) (hW : Below w.heap.size w W) => itemR_any (HLT.out W hW) (HYW.out W hW) HRT.out HSE.out HBD.out.2)
          have HMX := hid (show itemD x = max (reD x.re) (max (reD x.left) (max (reD x.right) (mpD x.map))) from rfl)
          have had := fun (W : World) => add_str X (itemW setS x) (by have := HBD.out.2; omega) W
          generalize itemW setS x = T at *
          generalize itemD x = Dx at *
          generalize reD x.re = D1 at *
          generalize reD x.left = D2 at *
          generalize reD x.right = D3 at *
          generalize mpD x.map = D4 at *
          have tok1 : True := trivial
          have tok2 : True := trivial
          have tok3 : True := trivial
          have tok4 : True := trivial
          go_region_held3 (fun W : World => W.cell? ⟨P, 2, none⟩ = some (.int .i64 yr.k) ∧ W.cell? ⟨P, 3, none⟩ = some (.string ⟨yr.x.toArray⟩) ∧ W.cell? ⟨P, 4, none⟩ = some (.int .u64 yr.s.a) ∧ W.cell? ⟨P, 5, none⟩ = some (.int .u64 yr.s.b) ∧ W.cell? ⟨P, 6, none⟩ = some (.int .u64 yr.s.c) ∧ W.cell? ⟨P, 7, none⟩ = some (.int .u64 yr.s.d) ∧ W.cell? ⟨P, 8, none⟩ = some (.slice yr.ad yr.n yr.cap) ∧ W.cell? ⟨P, 9, none⟩ = some (.int .i64 yr.mn) ∧ W.cell? ⟨P, 10, none⟩ = some (.int .i64 yr.mx) ∧ W.cell? ⟨P, 11, none⟩ = some (.int .i64 ym.k) ∧ W.cell? ⟨P, 12, none⟩ = some (.int .i64 ym.r.k) ∧ W.cell? ⟨P, 13, none⟩ = some (.string ⟨ym.r.x.toArray⟩) ∧ W.cell? ⟨P, 14, none⟩ = some (.int .u64 ym.r.s.a) ∧ W.cell? ⟨P, 15, none⟩ = some (.int .u64 ym.r.s.b) ∧ W.cell? ⟨P, 16, none⟩ = some (.int .u64 ym.r.s.c) ∧ W.cell? ⟨P, 17, none⟩ = some (.int .u64 ym.r.s.d) ∧ W.cell? ⟨P, 18, none⟩ = some (.slice ym.r.ad ym.r.n ym.r.cap) ∧ W.cell? ⟨P, 19, none⟩ = some (.int .i64 ym.r.mn) ∧ W.cell? ⟨P, 20, none⟩ = some (.int .i64 ym.r.mx) ∧ W.cell? ⟨P, 21, none⟩ = some (.string ⟨ym.o.toArray⟩) ∧ W.cell? ⟨P, 22, none⟩ = some (.slice ym.ad ym.n ym.cap) ∧ W.cell? ⟨P, 23, none⟩ = some (.int .i64 ym.mn) ∧ W.cell? ⟨P, 24, none⟩ = some (.int .i64 ym.mx) ∧ W.cell? ⟨P, 28, none⟩ = some (.int .i64 yl.k) ∧ W.cell? ⟨P, 29, none⟩ = some (.string ⟨yl.x.toArray⟩) ∧ W.cell? ⟨P, 30, none⟩ = some (.int .u64 yl.s.a) ∧ W.cell? ⟨P, 31, none⟩ = some (.int .u64 yl.s.b) ∧ W.cell? ⟨P, 32, none⟩ = some (.int .u64 yl.s.c) ∧ W.cell? ⟨P, 33, none⟩ = some (.int .u64 yl.s.d) ∧ W.cell? ⟨P, 34, none⟩ = some (.slice yl.ad yl.n yl.cap) ∧ W.cell? ⟨P, 35, none⟩ = some (.int .i64 yl.mn) ∧ W.cell? ⟨P, 36, none⟩ = some (.int .i64 yl.mx) ∧ W.cell? ⟨P, 37, none⟩ = some (.int .i64 yq.k) ∧ W.cell? ⟨P, 38, none⟩ = some (.string ⟨yq.x.toArray⟩) ∧ W.cell? ⟨P, 39, none⟩ = some (.int .u64 yq.s.a) ∧ W.cell? ⟨P, 40, none⟩ = some (.int .u64 yq.s.b) ∧ W.cell? ⟨P, 41, none⟩ = some (.int .u64 yq.s.c) ∧ W.cell? ⟨P, 42, none⟩ = some (.int .u64 yq.s.d) ∧ W.cell? ⟨P, 43, none⟩ = some (.slice yq.ad yq.n yq.cap) ∧ W.cell? ⟨P, 44, none⟩ = some (.int .i64 yq.mn) ∧ W.cell? ⟨P, 45, none⟩ = some (.int .i64 yq.mx)) (first | exact HSQ.out _ HB4.out | exact HSQ.out _ HB3.out | exact HSQ.out _ HB2.out | exact HSQ.out _ HB1.out | exact HSQ.out _ HD.out | exact HSQ.out _ (Below.refl _ _)) ((first | (have _t := tok1; go_at_call 43; refine (HD1.out _ (HLW.out.trans (HD.out.mono HLW.out.size))).mono ?_; rintro e V1 ⟨rfl, hb⟩; have HB1 := hid (HD.out.trans (hb.mono HD.out.size)); clear hb _t tok1) | (have _t := tok2; go_at_call 43; refine (HD2.out _ (HLW.out.trans (HB1.out.mono HLW.out.size))).mono ?_; rintro e V2 ⟨rfl, hb⟩; have HB2 := hid (HB1.out.trans (hb.mono HB1.out.size)); clear hb _t tok2) | (have _t := tok3; go_at_call 43; refine (HD3.out _ (HLW.out.trans (HB2.out.mono HLW.out.size))).mono ?_; rintro e V3 ⟨rfl, hb⟩; have HB3 := hid (HB2.out.trans (hb.mono HB2.out.size)); clear hb _t tok3) | (have _t := tok4; go_at_call 44; refine (HD4.out _ (HLW.out.trans (HB3.out.mono HLW.out.size))).mono ?_; rintro e V4 ⟨rfl, hb⟩; have HB4 := hid (HB3.out.trans (hb.mono HB3.out.size)); clear hb _t tok4)))
          replace HX := hid ((HB4.out.block _ (lt_of_heap HX.out)).trans HX.out)
          replace HLW := hid (HLW.out.trans (HB4.out.mono HLW.out.size))
          go_wp2_with (first | (refine wpList_load_blk rfl 65 (.tmp 7) rfl 46 info46 _ Tryz.underlying65 rfl P rfl 65 (Iw.cs ⟨yk, yn, yr, ym, yo, yb, ya, yl, yq⟩) HX.out rfl ?_) | (go_at_call 45; refine (HIT.out _ HLW.out).mono ?_; rintro e W3 ⟨rfl, hb⟩; replace HLW := hid (HLW.out.trans (hb.mono HLW.out.size)); clear hb))
          case roundEnd => exact ⟨⟨i + 1, X ++ T, max N Dx, by omega, by go_num, rfl, by rw [HMX.out]; congr 1; omega, HU2, HLW⟩, by simp [RowKit.intOf]; omega⟩
        · have hri := HRI1.out
          rw [hx] at hri
          have HNO2 := hid (HNO.out hx)
          clear hx HST HNO HRI HRI1
          go_wp2_with (first | (refine wpList_load_blk rfl 65 (.tmp 7) rfl 46 info46 _ Tryz.underlying65 rfl P rfl 65 (Iw.cs ⟨yk, yn, yr, ym, yo, yb, ya, yl, yq⟩) HX.out rfl ?_) | (go_at_call 42; refine hri.mono ?_; clear hri; rintro e W2 ⟨rfl, hb⟩; replace HLW := hid (HLW.out.trans (hb.mono HLW.out.size)); clear hb))
          go_ret2
          rw [HNO2.out]
          exact ⟨rfl, HLW.out⟩
      · obtain rfl : i = l.length := by omega
        have hall : l.all itX = true := by have := HU.out.a; rwa [List.take_length] at this
        have HE3 := hid (show showFile l = endM X N by rw [HE.out, if_pos hall, HU.out.x, HU.out.n, List.take_length])
        have hend := fun W => endR_any X N W (by omega) hNd
        have HEND := hid hend
        clear hall hlt hend
        go_wp2_with (go_at_call 46; refine (HEND.out _).mono ?_; rintro e W3 ⟨rfl, hb⟩; have HZ := hid hb; clear hb)
        go_ret2
        rw [HE3.out]
        exact ⟨rfl, HBW.out.trans (HZ.out.mono HBW.out.size)⟩
end Go.Proofs.YtfljcfdfgojdoaaGreatDoor.Sh.Rf
