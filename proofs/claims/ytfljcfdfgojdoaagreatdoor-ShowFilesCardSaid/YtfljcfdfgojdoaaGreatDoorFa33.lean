/-
  The reference's Set: a set as it is written.
  The reference's numbers, how often, levels.
-/
import Derived.Test.YtfljcfdfgojdoaaGreatDoorFa32
import Derived.Deep.DeepCutAuto
import Derived.Test.YtfljcfdfgojdoaaGreatDoorFa18
namespace Go.Proofs.YtfljcfdfgojdoaaGreatDoor.Sh.Rf
open Go.RowKit Go.Lib Go.Proofs.YtfljcfdfgojdoaaGreatDoor Go.Proofs.YtfljcfdfgojdoaaGreatDoor.Sh

theorem flatR_at : ∀ {l : List (Nat × Nat)} {i : Nat} (h : i < l.length), (flatR l)[i * 2]? = some (.int .u8 (l[i].1 : Nat)) ∧ (flatR l)[i * 2 + 1]? = some (.int .u8 (l[i].2 : Nat))
  | r :: l, 0, _ => ⟨rfl, rfl⟩
  | r :: l, i + 1, h => by
    have e : flatR (r :: l) = .int .u8 r.1 :: .int .u8 r.2 :: flatR l := rfl
    have := flatR_at (l := l) (i := i) (by simpa using h)
    rw [e, show (i + 1) * 2 = i * 2 + 2 by omega, show i * 2 + 2 + 1 = i * 2 + 1 + 2 by omega]
    exact this
theorem rows_cells {w W : World} {base cp : Nat} {ad : Option Addr} {L : List (Nat × Nat)} (h : OwnP w base (.slice ad L.length cp) L) (hne : L.length ≠ 0) (hW : Below w.heap.size w W) :
    ∃ g, ad = some ⟨g, 0, none⟩ ∧ ∀ i (h : i < L.length), W.cell? ⟨g, i * 2, none⟩ = some (.int .u8 (L[i].1 : Nat)) ∧ W.cell? ⟨g, i * 2 + 1, none⟩ = some (.int .u8 (L[i].2 : Nat)) := by
  rcases h.2 with ⟨_, h0⟩ | ⟨g, cap, cur, hv, _, hg, _⟩
  · exact absurd h0 hne
  · injection hv with e1 e2 e3
    have hgl := lt_of_heap hg
    refine ⟨g, e1, fun i hi => ?_⟩
    obtain ⟨f1, f2⟩ := flatR_at hi
    have c1 := h.cells (g := g) (by rw [e1]; rfl) _ _ f1
    have c2 := h.cells (g := g) (by rw [e1]; rfl) _ _ f2
    rw [Addr.add_lit, Nat.zero_add] at c1 c2
    exact ⟨(World.cell?_of_block (hW.block g hgl)).trans c1, (World.cell?_of_block (hW.block g hgl)).trans c2⟩
set_option maxRecDepth 100000 in
set_option maxHeartbeats 4000000 in
theorem setE_any (s : Se) (hs : SeOk s) (w : World) : Calls Tryz.prog 139 #[s.v] w (StrPost (setP (hasS s)) w) := by
  have HS := hid hs
  have HB0 := hid ((Below.refl w.heap.size w).alloc (Nat.le_refl _) (.cells s.cs 30))
  have hbx : (w.alloc (.cells s.cs 30)).heap[w.heap.size]? = some (.cells s.cs 30 (0, 0)) := heap_alloc_new _ _
  have hby := bytesR_any s hs (w.alloc (.cells s.cs 30))
  obtain ⟨⟨c0, c1, c2, c3⟩, _⟩ := set_box4 hbx
  have HBX := hid hbx
  have hsz0 : (w.alloc (.cells s.cs 30)).heap.size = w.heap.size + 1 := by simp
  clear hbx hs
  go_enter Tryz.func139, Tryz.ntmps139
  go_upto_region 1 with fail
  generalize w.alloc (.cells s.cs 30) = W0 at *
  have hm : (blB (hasS s) 256).length = manyP (hasS s) 256 := by rw [blB_len, bl_len]
  go_upto_if 9 with (go_at_call 168; refine hby.mono ?_; clear hby; rintro e W1 ⟨⟨v1, rfl, ho1⟩, hb1⟩; have HB1 := hid (HB0.out.trans (hb1.mono (by omega))); have HBX1 := hid ((hb1.block _ (by omega)).trans HBX.out); obtain ⟨ad, cp, rfl⟩ := own_shape ho1; clear ho1 hb1 c0 c1 c2 c3)
  go_cut [3] (fun v wx => ∃ (u : Se) (pre : List B), SeOk u ∧ v = .string ⟨pre.toArray⟩ ∧ wx.heap[w.heap.size]? = some (.cells u.cs 30 (0, 0)) ∧ pre.length ≤ 2 ∧ setP (hasS s) = pre ++ ((rowsTo (hasS u) 256).flatMap rowW ++ [93]) ∧ Below w.heap.size w wx)
  case first =>
    have hlt1 := lt_of_heap HBX1.out
    by_cases hmany : 128 < manyP (hasS s) 256
    · have hd : decide ((128 : Int) < ((manyP (hasS s) 256 : Nat) : Int)) = true := decide_eq_true (by omega)
      have HV := hid (show setP (hasS s) = [91, 94] ++ ((rowsTo (hasS (notS s)) 256).flatMap rowW ++ [93]) by rw [rowsTo_ext (fun b hb => has_not HS.out hb)]; unfold setP; rw [if_pos hmany])
      have hnot := byR3_any s HS.out W1
      obtain ⟨⟨c0, c1, c2, c3⟩, f0, f1, f2, f3⟩ := set_box4 HBX1.out
      rw [hd]
      clear hmany hm
      go_wp2_with (go_at_call 169; refine hnot.mono ?_; clear hnot; rintro e W2 ⟨rfl, hb2⟩; have HB2 := hid (HB1.out.trans (hb2.mono HB1.out.size)); have HBX2 := hid ((hb2.block _ hlt1).trans HBX1.out); clear hb2 c0 c1 c2 c3 f0 f1 f2 f3; obtain ⟨_, f0, f1, f2, f3⟩ := set_box4 HBX2.out)
      go_meet
      case rel => exact ⟨notS s, [91, 94], HS.out.nots, rfl, set4_heap HBX2.out (notS s), by decide, HV.out, set4_below HB2.out (Nat.le_refl _) (notS s)⟩
    · have hd : decide ((128 : Int) < ((manyP (hasS s) 256 : Nat) : Int)) = false := decide_eq_false (by omega)
      have HV := hid (show setP (hasS s) = [91] ++ ((rowsTo (hasS s) 256).flatMap rowW ++ [93]) by unfold setP; rw [if_neg hmany])
      rw [hd]
      clear hmany hm
      go_wp2
      go_meet
      case rel => exact ⟨s, [91], HS.out, rfl, HBX1.out, by decide, HV.out, HB1.out⟩
  case rest =>
    obtain ⟨u, pre, hu, rfl, hbx2, hpre, hval, hb2⟩ := hcut
    have HB2 := hid hb2
    have HVAL := hid hval
    have hrw := rowsR_any u hu wc
    obtain ⟨⟨c0, c1, c2, c3⟩, _⟩ := set_box4 hbx2
    clear hb2 hval hbx2 hm
    go_upto_region 6 with (go_at_call 170; refine hrw.mono ?_; clear hrw; rintro e W3 ⟨⟨v3, rfl, ho3⟩, hb3⟩; have HO3 := hid ho3; have HB3 := hid (HB2.out.trans (hb3.mono HB2.out.size)); clear ho3 hb3 c0 c1 c2 c3; obtain ⟨ad, cp, rfl⟩ := own_shape HO3.out)
    obtain ⟨L, hL⟩ : ∃ L, L = rowsTo (hasS u) 256 := ⟨_, rfl⟩
    rw [← hL] at HO3 HVAL ⊢
    have HIN := hid (show ∀ r ∈ L, r.1 ≤ r.2 ∧ r.2 < 256 from fun r hr => by rw [hL] at hr; exact rowsTo_in hr)
    have HLL := hid (show L.length ≤ 256 by rw [hL]; exact rowsTo_len _ _)
    have HCEL := hid (fun (W : World) (hW : Below W3.heap.size W3 W) (hne : L.length ≠ 0) => rows_cells HO3.out hne hW)
    obtain ⟨n, hn⟩ : ∃ n, n = L.length := ⟨_, rfl⟩
    have HN := hid hn
    rw [← hn] at ⊢
    have hn256 : n ≤ 256 := by rw [hn]; exact HLL.out
    clear hL hn HO3 hu
    go_wp2
    go_loopw [3, 5] (fun v vi wr => ∃ i : Nat, i ≤ n ∧ vi = .int .i64 i ∧ v = .string ⟨(pre ++ (L.take i).flatMap rowW).toArray⟩ ∧ Hid (Below W3.heap.size W3 wr)) (fun _ vi _ => n - (RowKit.intOf vi).toNat)
    case atStart => exact ⟨0, Nat.zero_le _, rfl, by simp, hid (Below.refl _ _)⟩
    case round =>
      obtain ⟨i, hi, rfl, rfl, HB⟩ := hrel
      by_cases hlt : i < n
      · have hil : i < L.length := by rw [← HN.out]; exact hlt
        obtain ⟨g, rfl, hcells⟩ := HCEL.out wr HB.out (by omega)
        obtain ⟨ca, cb⟩ := hcells i hil
        obtain ⟨r12, r256⟩ := HIN.out _ (List.getElem_mem hil)
        have HTAKE := hid (show (L.take i).flatMap rowW ++ rowW L[i] = (L.take (i + 1)).flatMap rowW by rw [List.take_succ_eq_append_getElem hil, List.flatMap_append, List.flatMap_cons, List.flatMap_nil, List.append_nil])
        have HLEN := hid (show (pre ++ (L.take i).flatMap rowW).length ≤ 9 * 256 + 2 by
          have h1 := rows_len (L.take i)
          have h2 : (L.take i).length ≤ 256 := by rw [List.length_take]; have := HLL.out; omega
          rw [List.length_append]
          omega)
        have HCE := hid (show ∀ W, Below wr.heap.size wr W → W.cell? ⟨g, i * 2, none⟩ = some (.int .u8 (L[i].1 : Nat)) ∧ W.cell? ⟨g, i * 2 + 1, none⟩ = some (.int .u8 (L[i].2 : Nat)) from fun W hW => by
          obtain ⟨g', e, hc⟩ := HCEL.out W (HB.out.trans (hW.mono HB.out.size)) (by omega)
          injection e with e; injection e with e
          subst e
          exact hc i hil)
        generalize L[i] = r at *
        obtain ⟨x, y⟩ := r
        dsimp only at ca cb r12 r256
        have HROW := hid (show rowW (x, y) = escB (UInt8.ofNat x) ++ (if x < y then 45 :: escB (UInt8.ofNat y) else []) from rfl)
        have HCD := hid (show ∀ W, Below wr.heap.size wr W → W.cell? ⟨g, i * 2, none⟩ = some (.int .u8 (x : Nat)) ∧ W.cell? ⟨g, i * 2 + 1, none⟩ = some (.int .u8 (y : Nat)) from HCE.out)
        clear HCE
        have hb1 := byteR_any (UInt8.ofNat x) wr
        rw [byte_of, Nat.mod_eq_of_lt (show x < 256 by omega)] at hb1
        have HBY := hid (fun W => show Calls Tryz.prog 140 #[.int .u8 (y : Nat)] W (StrPost (escB (UInt8.ofNat y)) W) by have h := byteR_any (UInt8.ofNat y) W; rw [byte_of, Nat.mod_eq_of_lt r256] at h; exact h)
        have l1 := esc_len (UInt8.ofNat x)
        have l2 := esc_len (UInt8.ofNat y)
        have HXY := hid (And.intro r12 r256)
        have hii : (i : Int) < (n : Int) := by omega
        have HTAKE2 := hid (show (L.take i).flatMap rowW ++ (escB (UInt8.ofNat x) ++ (if x < y then 45 :: escB (UInt8.ofNat y) else [])) = (L.take (i + 1)).flatMap rowW by rw [← HROW.out]; exact HTAKE.out)
        clear hcells hil r12 r256 HTAKE
        generalize hX : pre ++ (L.take i).flatMap rowW = X at *
        have HTK := hid (show X ++ (escB (UInt8.ofNat x) ++ (if x < y then 45 :: escB (UInt8.ofNat y) else [])) = pre ++ (L.take (i + 1)).flatMap rowW by rw [← hX, List.append_assoc, HTAKE2.out])
        have hadd1 := add_str X (escB (UInt8.ofNat x)) (by have := HLEN.out; omega)
        by_cases hxy : x < y
        · rw [if_pos hxy] at HTK
          have hne : ((y : Int) != (x : Int)) = true := by simpa using (by omega : ¬ (y : Int) = (x : Int))
          have hadd2 := add_cons (X ++ escB (UInt8.ofNat x)) [45] (X ++ (escB (UInt8.ofNat x) ++ [45])) (by simp) (by have := HLEN.out; simp only [List.length_append, List.length_cons, List.length_nil]; omega)
          have hadd3 := add_cons (X ++ (escB (UInt8.ofNat x) ++ [45])) (escB (UInt8.ofNat y)) (X ++ (escB (UInt8.ofNat x) ++ 45 :: escB (UInt8.ofNat y))) (by simp) (by have := HLEN.out; simp only [List.length_append, List.length_cons, List.length_nil]; omega)
          clear l1 l2 hxy hX
          go_upto_region 10 with (go_at_call 140; refine hb1.mono ?_; clear hb1; rintro e W4 ⟨rfl, hb4⟩; have HB4 := hid hb4; clear hb4 ca cb; obtain ⟨ca, cb⟩ := HCD.out _ HB4.out)
          go_quiet (fail)
          have HB5 := hid (below_drewN HB4.out nq)
          clear ca cb
          obtain ⟨ca, cb⟩ := HCD.out _ HB5.out
          go_wp2_with (go_at_call 140; refine (HBY.out _).mono ?_; rintro e W6 ⟨rfl, hb6⟩; have HB6 := hid (HB5.out.trans (hb6.mono HB5.out.size)); clear hb6)
          case roundEnd => exact ⟨⟨i + 1, by omega, by go_num, by rw [← HTK.out], hid (HB.out.trans (HB6.out.mono HB.out.size))⟩, by simp [RowKit.intOf]; omega⟩
        · rw [if_neg hxy, List.append_nil] at HTK
          have hne : ((y : Int) != (x : Int)) = false := by have := HXY.out.1; simpa using (by omega : (y : Int) = (x : Int))
          clear l1 l2 hxy hX
          go_upto_region 10 with (go_at_call 140; refine hb1.mono ?_; clear hb1; rintro e W4 ⟨rfl, hb4⟩; have HB4 := hid hb4; clear hb4 ca cb; obtain ⟨ca, cb⟩ := HCD.out _ HB4.out)
          go_quiet (fail)
          have HB5 := hid (below_drewN HB4.out nq)
          clear ca cb
          go_wp2
          case roundEnd => exact ⟨⟨i + 1, by omega, by go_num, by rw [← HTK.out], hid (HB.out.trans (HB5.out.mono HB.out.size))⟩, by simp [RowKit.intOf]; omega⟩
      · obtain rfl : i = n := by omega
        have ht : L.take i = L := by rw [HN.out]; exact List.take_length
        rw [ht]
        have HLEN := hid (show (pre ++ L.flatMap rowW).length ≤ 9 * 256 + 2 by
          have h1 := rows_len L
          have h2 := HLL.out
          rw [List.length_append]
          omega)
        have HV2 := hid (show setP (hasS s) = pre ++ L.flatMap rowW ++ [93] by rw [HVAL.out, List.append_assoc])
        clear ht hlt
        generalize pre ++ L.flatMap rowW = X at *
        have hadd := add_str X [93] (by have := HLEN.out; simp only [List.length_cons, List.length_nil]; omega)
        go_wp2
        go_ret
        rw [HV2.out]
        exact ⟨rfl, HB3.out.trans (HB.out.mono HB3.out.size)⟩
end Go.Proofs.YtfljcfdfgojdoaaGreatDoor.Sh.Rf

namespace Go.Proofs.YtfljcfdfgojdoaaGreatDoor.Sh.Rf
open Go.RowKit Go.Lib Go.Proofs.YtfljcfdfgojdoaaGreatDoor Go.Proofs.YtfljcfdfgojdoaaGreatDoor.Sh

abbrev tenB : ByteArray := ⟨#[48, 49, 50, 51, 52, 53, 54, 55, 56, 57]⟩
def digB (n : Nat) : B := UInt8.ofNat (48 + n)
theorem ten_cut' : ∀ n : Fin 10, (tenB.extract n.1 (n.1 + 1)) = ⟨#[digB n.1]⟩ := by decide
theorem ten_cut {n : Nat} (h : n < 10) : tenB.extract n (n + 1) = ⟨#[digB n]⟩ := ten_cut' ⟨n, h⟩
theorem two_str (x y : B) : (⟨#[x]⟩ ++ ⟨#[y]⟩ : ByteArray) = ⟨[x, y].toArray⟩ := cat_str [x] [y]
set_option maxRecDepth 100000 in
set_option maxHeartbeats 1000000 in
theorem decR_any (n : Int) (h0 : 0 ≤ n) (h1 : n ≤ 99) (w : World) : Calls Tryz.prog 166 #[.int .i64 n] w (StrPost (decW n) w) := by
  obtain ⟨m, rfl⟩ := Int.eq_ofNat_of_zero_le h0
  by_cases h9 : 9 < m
  · obtain ⟨a, ha⟩ : ∃ a : Nat, a = m / 10 := ⟨_, rfl⟩
    obtain ⟨b, hb⟩ : ∃ b : Nat, b = m % 10 := ⟨_, rfl⟩
    have HE := hid (show decW (m : Int) = [digB a, digB b] by
      unfold decW
      rw [if_pos (by omega), show ((m : Int) / 10).toNat = a by omega, show ((m : Int) % 10).toNat = b by omega]; rfl)
    have ha10 : a < 10 := by omega
    have hb10 : b < 10 := by omega
    have ea : (m : Int) / 10 = (a : Int) := by omega
    have eb : (m : Int) % 10 = (b : Int) := by omega
    have ta : (m : Int).tdiv 10 = (a : Int) := by rw [Int.tdiv_eq_ediv_of_nonneg (by omega), ea]
    have tb : (m : Int).tmod 10 = (b : Int) := by rw [Int.tmod_eq_emod_of_nonneg (by omega), eb]
    have x1 : tenB.extract a (a + 1) = ⟨#[digB a]⟩ := ten_cut ha10
    have x2 : tenB.extract b (b + 1) = ⟨#[digB b]⟩ := ten_cut hb10
    have wa : IntKind.i64.wrap (a : Int) = a := by rw [IntKind.wrap_i64]; omega
    have wb : IntKind.i64.wrap (b : Int) = b := by rw [IntKind.wrap_i64]; omega
    have wa1 : IntKind.i64.wrap ((a : Int) + 1) = a + 1 := by rw [IntKind.wrap_i64]; omega
    have wb1 : IntKind.i64.wrap ((b : Int) + 1) = b + 1 := by rw [IntKind.wrap_i64]; omega
    have la : (a : Int) + 1 ≤ 10 := by omega
    have lb : (b : Int) + 1 ≤ 10 := by omega
    have na : ((a : Int) + 1).toNat = a + 1 := by omega
    have nb : ((b : Int) + 1).toNat = b + 1 := by omega
    have h9' : (9 : Int) < (m : Int) := by omega
    clear ha hb h0 h1 h9
    go_enter Tryz.func166, Tryz.ntmps166
    go_upto_region 3 with fail
    go_region
    all_goals
      go_wp2
      go_ret
      rw [HE.out, two_str]
      exact ⟨rfl, (Below.refl _ _).drew⟩
  · have HE := hid (show decW (m : Int) = [digB m] by
      unfold decW
      rw [if_neg (by omega), Int.toNat_natCast]; rfl)
    have x1 : tenB.extract m (m + 1) = ⟨#[digB m]⟩ := ten_cut (by omega)
    have wa1 : IntKind.i64.wrap ((m : Int) + 1) = m + 1 := by rw [IntKind.wrap_i64]; omega
    have la : (m : Int) + 1 ≤ 10 := by omega
    have na : ((m : Int) + 1).toNat = m + 1 := by omega
    have h9' : ¬ (9 : Int) < (m : Int) := by omega
    clear h0 h1 h9
    go_enter Tryz.func166, Tryz.ntmps166
    go_wp2
    all_goals
      go_ret
      rw [HE.out]
      exact ⟨rfl, Below.refl _ _⟩
set_option maxRecDepth 100000 in
set_option maxHeartbeats 1000000 in
theorem levelR_any (k : Int) (x : List B) (s : Se) (v : Value) (mn mx : Int) (w : World) :
    Calls Tryz.prog 90 #[.agg (reC k x s v mn mx)] w fun e w' => e = .returned (.int .i64 (levK k)) ∧ Below w.heap.size w w' := by
  have HB := hid (((Below.refl w.heap.size w).alloc (Nat.le_refl _) (.cells (reC k x s v mn mx) 33)))
  have hb : (w.alloc (.cells (reC k x s v mn mx) 33)).heap[w.heap.size]? = some (.cells (reC k x s v mn mx) 33 (0, 0)) := heap_alloc_new _ _
  have c0 := cell_blk (i := 0) hb rfl
  clear hb
  unfold levK
  go_enter Tryz.func90, Tryz.ntmps90
  go_wp2
  all_goals go_ret
  all_goals simp_all
  all_goals exact HB.out
set_option maxRecDepth 100000 in
set_option maxHeartbeats 1000000 in
theorem mlevelR_any (y : Mw) (w : World) :
    Calls Tryz.prog 91 #[.agg y.cs] w fun e w' => e = .returned (.int .i64 (mlevK y.k)) ∧ Below w.heap.size w w' := by
  have HB := hid (((Below.refl w.heap.size w).alloc (Nat.le_refl _) (.cells y.cs 36)))
  have hb : (w.alloc (.cells y.cs 36)).heap[w.heap.size]? = some (.cells y.cs 36 (0, 0)) := heap_alloc_new _ _
  have c0 := cell_blk (i := 0) hb rfl
  clear hb
  unfold mlevK
  go_enter Tryz.func91, Tryz.ntmps91
  go_wp2
  all_goals go_ret
  all_goals simp_all
  all_goals exact HB.out
set_option maxRecDepth 100000 in
set_option maxHeartbeats 1000000 in
theorem timesR_any (lo hi : Int) (h : oftOk lo hi) (w : World) : Calls Tryz.prog 137 #[.int .i64 lo, .int .i64 hi] w (StrPost (oftenW lo hi) w) := by
  rcases h with ⟨rfl, rfl⟩ | ⟨rfl, rfl⟩ | ⟨h0, h1, h2⟩
  · go_enter Tryz.func137, Tryz.ntmps137
    go_wp2
    go_ret
    exact ⟨rfl, Below.refl _ _⟩
  · go_enter Tryz.func137, Tryz.ntmps137
    go_wp2
    go_ret
    exact ⟨rfl, Below.refl _ _⟩
  · have n1 : ¬ hi = -1 := by omega
    have n1' : (hi == -1) = false := by simpa using n1
    by_cases hq : lo = 0 ∧ hi = 1
    · obtain ⟨rfl, rfl⟩ := hq
      go_enter Tryz.func137, Tryz.ntmps137
      go_wp2
      go_ret
      exact ⟨rfl, Below.refl _ _⟩
    · have hd1 := decR_any lo h0 (by omega)
      have hd2 := decR_any hi (by omega) (by omega)
      have hl1 : (decW lo).length ≤ 2 := by unfold decW; split <;> simp
      have hl2 : (decW hi).length ≤ 2 := by unfold decW; split <;> simp
      by_cases he : lo = hi
      · subst he
        have HE := hid (show oftenW lo lo = 123 :: (decW lo ++ [125]) by unfold oftenW; rw [if_neg (by omega), if_neg (by omega), if_neg hq, if_pos rfl])
        generalize decW lo = A at *
        have hadd1 := add_cons [123] A (123 :: A) rfl (by simp only [List.length_cons, List.length_nil]; omega)
        have hadd2 := add_cons (123 :: A) [125] (123 :: (A ++ [125])) rfl (by simp only [List.length_cons, List.length_nil]; omega)
        by_cases hz : lo = 0
        · subst hz
          clear hq hl1 hl2
          go_enter Tryz.func137, Tryz.ntmps137
          go_wp2_with (go_at_call 166; refine (hd1 _).mono ?_; rintro e w2 ⟨rfl, hb2⟩)
          go_ret
          rw [HE.out]
          exact ⟨rfl, hb2⟩
        · have hz' : (lo == 0) = false := by simpa using hz
          clear hq hl1 hl2
          go_enter Tryz.func137, Tryz.ntmps137
          go_wp2_with (go_at_call 166; refine (hd1 _).mono ?_; rintro e w2 ⟨rfl, hb2⟩)
          go_ret
          rw [HE.out]
          exact ⟨rfl, hb2⟩
      · have he' : (lo == hi) = false := by simpa using he
        have HE := hid (show oftenW lo hi = 123 :: (decW lo ++ 44 :: (decW hi ++ [125])) by unfold oftenW; rw [if_neg (by omega), if_neg (by omega), if_neg hq, if_neg he])
        generalize decW lo = A at *
        generalize decW hi = C at *
        have hadd1 := add_cons [123] A (123 :: A) rfl (by simp only [List.length_cons, List.length_nil]; omega)
        have hadd2 := add_cons (123 :: A) [44] (123 :: (A ++ [44])) rfl (by simp only [List.length_cons, List.length_nil]; omega)
        have hadd3 := add_cons (123 :: (A ++ [44])) C (123 :: (A ++ 44 :: C)) (by simp) (by simp only [List.length_append, List.length_cons, List.length_nil]; omega)
        have hadd4 := add_cons (123 :: (A ++ 44 :: C)) [125] (123 :: (A ++ 44 :: (C ++ [125]))) (by simp) (by simp only [List.length_append, List.length_cons, List.length_nil]; omega)
        have tok1 : True := trivial
        have tok2 : True := trivial
        by_cases hz : lo = 0
        · have hz2 : ¬ hi = 1 := by omega
          have hz2' : (hi == 1) = false := by simpa using hz2
          subst hz
          clear hq hl1 hl2
          go_enter Tryz.func137, Tryz.ntmps137
          go_wp2_with (first | (have _t := tok1; go_at_call 166; refine (hd1 _).mono ?_; rintro e w2 ⟨rfl, hb2⟩; clear tok1 _t) | (have _t := tok2; go_at_call 166; refine (hd2 _).mono ?_; rintro e w3 ⟨rfl, hb3⟩; clear tok2 _t))
          go_ret
          rw [HE.out]
          exact ⟨rfl, hb2.trans (hb3.mono hb2.size)⟩
        · have hz' : (lo == 0) = false := by simpa using hz
          clear hq hl1 hl2
          go_enter Tryz.func137, Tryz.ntmps137
          go_wp2_with (first | (have _t := tok1; go_at_call 166; refine (hd1 _).mono ?_; rintro e w2 ⟨rfl, hb2⟩; clear tok1 _t) | (have _t := tok2; go_at_call 166; refine (hd2 _).mono ?_; rintro e w3 ⟨rfl, hb3⟩; clear tok2 _t))
          go_ret
          rw [HE.out]
          exact ⟨rfl, hb2.trans (hb3.mono hb2.size)⟩
end Go.Proofs.YtfljcfdfgojdoaaGreatDoor.Sh.Rf
