/-
  ParseItems returns true at every three texts of which the first is a file: the walk.
-/
import Derived.Test.YtcedjjlflahpcaaItmV
namespace Go.Proofs.Ytcedjjlflahpcaa
open Go.RowKit Go.Lib

theorem Its.low {base : Nat} {w w' : World} {l : List It} {v : Value} (h : Its base w l v) (hb : Below w.heap.size w w') : ItsG (fun g => g < w.heap.size) w' l v :=
  h.gen.frame (fun _ _ hl => hl) (fun g _ hl => hb.block g hl)

set_option maxRecDepth 100000 in
set_option maxHeartbeats 4000000 in
theorem it_good (s t r : ByteArray) (w : World) (h1 : s.size ≤ 1200) (h2 : t.size ≤ 1200) (h3 : r.size ≤ 500) {a : List It} (hx : parseFile s = .ok a) :
    Calls Try.prog 5 #[.string s, .string t, .string r] w fun e w' => e = .returned (.bool true) ∧ Below w.heap.size w w' := by
  have h1' : (s.size : Int) ≤ 1200 := by omega
  have h2' : (t.size : Int) ≤ 1200 := by omega
  have h3' : (r.size : Int) ≤ 500 := by omega
  have hs : s.size ≤ 65536 := by omega
  have ht : t.size ≤ 65536 := by omega
  have hr5 : r.size ≤ 65536 := by omega
  have hst : (stB s t).size ≤ 65536 := by rw [stB_size]; omega
  have hdf : (dfB r).size ≤ 65536 := by rw [dfB_size]; omega
  have HX := hid hx
  clear hx
  have tk1 : True := trivial
  have tk2 : True := trivial
  have tk3 : True := trivial
  go_enter Try.func5, Try.ntmps5
  go_upto_region 8 with (first | (have _t := tk1; go_at_call 10; refine (parseFile_any s _ hs).mono ?_; rintro e w1 hp1; obtain ⟨hb1, ad1, n1, rfl, hi1⟩ := hp1.good HX.out; have HI1 := hid hi1; clear tk1 _t hp1 hi1) | (have _t := tk2; go_at_call 10; refine (parseFile_any t _ ht).mono ?_; rintro e w2 hp2; obtain ⟨hb2, ad2, k2, n2, p2, y2, rfl⟩ := hp2.code; have HP2 := hid hp2; clear tk2 _t hp2) | (have _t := tk3; go_at_call 10; refine (parseFile_any (stB s t) _ hst).mono ?_; rintro e w3 hp3; obtain ⟨hb3, ad3, k3, n3, p3, y3, rfl⟩ := hp3.code; have HP3 := hid hp3; clear tk3 _t hp3))
  have hB3 : Below w.heap.size w w3 := bnext (bnext hb1 hb2) hb3
  go_cut [87] (fun v wx => v = .bool false ∧ Below w.heap.size w wx)
  case first =>
    rcases hT : parseFile t with ⟨p', y'⟩ | b
    · have e2 := HP2.out.err hT
      have hne : (y2 == 0) = false := by rw [e2]; simpa using file_err hT
      clear e2 hT
      go_wp2_with fail
      go_meet
      exact ⟨rfl, hB3⟩
    · obtain ⟨rfl, rfl, hi2⟩ := HP2.out.okv hT
      have hfa := parseFile_few HX.out
      have hfb := parseFile_few hT
      have hsum : IntKind.i64.wrap ((a.length : Int) + b.length) = (a.length : Int) + b.length := by rw [IntKind.wrap_i64]; omega
      by_cases hab : a.length + b.length ≤ 256
      · obtain ⟨rfl, hk3, hi3⟩ := HP3.out.okv (file_two HX.out hT hab (stB_list s t) hst)
        have h256 : (a.length : Int) + b.length ≤ 256 := by omega
        rw [List.length_append] at hk3
        subst hk3
        have A1 := hid ((HI1.out.low (bnext hb2 hb3)).frame (F' := fun g => g < w3.heap.size) (w' := w3) (fun g hg _ => Nat.lt_of_lt_of_le hg (bnext hb2 hb3).size) (fun _ _ _ => rfl))
        have A2 := hid ((hi2.low hb3).frame (F' := fun g => g < w3.heap.size) (w' := w3) (fun g hg _ => Nat.lt_of_lt_of_le hg hb3.size) (fun _ _ _ => rfl))
        have A3 := hid (hi3.low (Below.refl _ _))
        clear hi2 hi3 HP2 HP3 hT
        have hown0 : (w3.alloc (.cells #[] 46)).ownsRow w3.heap.size 46 46 (.slice (some ⟨w3.heap.size, 0, none⟩) 0 0) 0 [] := ⟨rfl, .inr ⟨w3.heap.size, 0, #[], rfl, Nat.le_refl _, heap_alloc_new _ _, Nat.le_refl _, by simp, rfl, rfl⟩⟩
        have B1 := hid (A1.out.frame (F' := fun g => g < w3.heap.size) (w' := w3.alloc (.cells #[] 46)) (fun _ h _ => h) (fun g hg _ => alloc_old hg))
        have tk4 : True := trivial
        have tk5 : True := trivial
        go_wp2_with (first | (have _t := tk4; with_reducible (show wpList _ _ _ (⟨some 81, _, _, _, _, _⟩ :: _) _ _); go_loud (refine wpList_append_its (.tmp 79) (.tmp 80) rfl (by kernel_rfl) w3.heap.size w3.heap.size 0 0 [] rfl hown0 B1.out rfl (by omega) (by rw [World.size_alloc]; omega) ?_; intro g4 cap4 w4 ys1 ho4 hi4 hg4; rw [Nat.zero_add, List.nil_append] at ho4; have HO4 := hid ho4; have HI4 := hid hi4; have HG4 := hid hg4; have B2 := hid (A2.out.frame (F' := fun g => g < w3.heap.size) (w' := w4) (fun _ h _ => h) (fun g hg _ => (hg4.block g (by rw [World.size_alloc]; omega) (fun e => by have := Option.some.inj e; omega)).trans (alloc_old hg))); have hs4 : w3.heap.size ≤ w4.heap.size := (by have := hg4.size; rw [World.size_alloc] at this; omega); clear tk4 _t ho4 hi4 hg4)) | (have _t := tk5; with_reducible (show wpList _ _ _ (⟨some 83, _, _, _, _, _⟩ :: _) _ _); go_loud (refine wpList_append_its (.tmp 81) (.tmp 82) rfl (by kernel_rfl) w3.heap.size g4 a.length cap4 ys1 rfl HO4.out B2.out rfl (by omega) hs4 ?_; intro g5 cap5 w5 ys2 ho5 hi5 hg5; have HO5 := hid ho5; have HI5 := hid hi5; have HG5 := hid hg5; clear tk5 _t ho5 hi5 hg5)))
        have hg4 : w3.heap.size ≤ g4 := own_block HO4.out rfl
        have K5 : ∀ k, k < w3.heap.size → w5.heap[k]? = w3.heap[k]? := fun k hk => (HG5.out.block k (by omega) (fun e => by have := Option.some.inj e; omega)).trans ((HG4.out.block k (by rw [World.size_alloc]; omega) (fun e => by have := Option.some.inj e; omega)).trans (alloc_old hk))
        have C5 := A3.out.frame (F' := fun g => g < w3.heap.size) (w' := w5) (fun _ h _ => h) (fun g hg _ => K5 g hg)
        have R5 : ItsG (fun _ => True) w5 (a ++ b) (.slice (some ⟨g5, 0, none⟩) (a.length + b.length) cap5) := ⟨ys1 ++ ys2, by rw [List.length_append]; exact ownsRow_same HO5.out (fun _ _ => Nat.zero_le _) (fun _ _ _ => rfl), fun _ _ => trivial,
          ItsIn.app (HI4.out.frame (fun _ _ _ => trivial) (fun g hg _ => (K5 g hg).trans (alloc_old hg).symm)) (HI5.out.frame (fun _ _ _ => trivial) (fun g hg _ => HG5.out.block g (by omega) (fun e => by have := Option.some.inj e; omega)))⟩
        have hB5 : Below w.heap.size w w5 := ((hB3.alloc hB3.size (.cells #[] 46)).grown HG4.out (by have := hB3.size; rw [World.size_alloc]; omega) (fun q hq => by cases hq; exact hB3.size)).grown HG5.out (by have := hB3.size; omega) (fun q hq => by cases hq; have := hB3.size; omega)
        refine (items_yes C5 R5).mono ?_
        rintro e w6 ⟨rfl, hb6⟩
        go_wp2_with fail
        go_meet
        exact ⟨rfl, hB5.trans (hb6.mono hB5.size)⟩
      · have h256 : ¬ (a.length : Int) + b.length ≤ 256 := by omega
        go_wp2_with fail
        go_meet
        exact ⟨rfl, hB3⟩
  case rest =>
  obtain ⟨rfl, hBx⟩ := hcut
  clear HP2 HP3 HI1 hB3 hb1 hb2 hb3
  rcases hr : parseRe r with ⟨p, y⟩ | x
  · have hy : (y != 0) = true := by simpa using parse_err hr
    have HR := hid hr
    clear hr
    go_wp2_with (first | (go_at_call 6; refine (parse_any r _ hr5).mono ?_; rintro e w4 hp4; obtain ⟨hb4, rfl⟩ := hp4.bad HR.out) | (go_at_call 10; refine (parseFile_any (dfB r) _ hdf).mono ?_; rintro e w5 hp5; obtain ⟨hb5, ad5, k5, n5, p5, y5, rfl⟩ := hp5.code) | (go_at_call 7; refine (awake_any _).mono ?_; rintro e w6 ⟨rfl, hb6⟩))
    go_ret
    exact ⟨rfl, ((hBx.trans (hb4.mono hBx.size)).alloc (Nat.le_trans hBx.size hb4.size) _).trans ((bnext hb5 hb6).mono (by rw [World.size_alloc]; have := hBx.size; have := hb4.size; omega))⟩
  · have HD := hid (file_def hr (dfB_list r) hdf)
    have HR := hid hr
    clear hr
    go_upto_region 14 with (first | (go_at_call 6; refine (parse_any r _ hr5).mono ?_; rintro e w4 hp4; obtain ⟨hb4, k4, x4, u4', ad4, n4, cap4, mn4, mx4, rfl, hr4⟩ := hp4.good HR.out; have HR4 := hid hr4; clear hr4 hp4) | (go_at_call 10; refine (parseFile_any (dfB r) _ hdf).mono ?_; rintro e w5 hp5; obtain ⟨hb5, ad5, n5, rfl, hi5⟩ := hp5.good HD.out; have HI5 := hid hi5; clear hi5 hp5))
    have hs5 := hb5.size
    rw [World.size_alloc] at hs5
    have h4l : w4.heap.size < w5.heap.size := by omega
    have HB4 := hid ((hb5.block w4.heap.size (by rw [World.size_alloc]; omega)).trans (heap_alloc_new w4 (.cells (reC k4 x4 u4' (.slice ad4 n4 cap4) mn4 mx4) 27)))
    have hB5 : Below w.heap.size w w5 := ((hBx.trans (hb4.mono hBx.size)).alloc (Nat.le_trans hBx.size hb4.size) _).trans (hb5.mono (by rw [World.size_alloc]; have := hBx.size; have := hb4.size; omega))
    obtain ⟨ad5', cap5', ev, hor⟩ := HI5.out.gen.open
    injection ev with ev1 ev2 ev3
    subst ev1
    subst ev3
    obtain ⟨g5, rfl, hg5l, _, hn5, _, hparts⟩ := hor.resolve_left (by rintro ⟨h, _⟩; cases h)
    obtain ⟨r1, m1, y1, q1, hc0, hre1, _⟩ := hparts 0 _ rfl
    obtain ⟨r2, m2', y2', q2, hc1, hre2, _⟩ := hparts 1 _ rfl
    simp only [Nat.zero_mul, Nat.one_mul] at hc0 hc1
    have HRI := hid (show ∀ W : World, Below w5.heap.size w5 W → ReIn (fun g => g < w5.heap.size) W x r1.cs ∧ ReIn (fun g => g < w5.heap.size) W x r2.cs ∧ ReIn (fun g => g < w5.heap.size) W x (reC k4 x4 u4' (.slice ad4 n4 cap4) mn4 mx4) from fun W hW => ⟨hre1.frame (fun _ _ hl => hl) (fun g _ hl => hW.block g hl), hre2.frame (fun _ _ hl => hl) (fun g _ hl => hW.block g hl), HR4.out.frame (fun g _ hl => by omega) (fun g _ hl => (hW.block g (by omega)).trans ((hb5.block g (by rw [World.size_alloc]; omega)).trans (alloc_old hl)))⟩)
    have HS := hid (show ∀ W : World, Below w5.heap.size w5 W → (W.cell? ⟨g5, 0, none⟩ = some (.int .i64 1) ∧ W.cell? ⟨g5, 1, none⟩ = some (.string ⟨#[120]⟩) ∧ W.cell? ⟨g5, 2, none⟩ = some (.int .i64 r1.k) ∧ W.cell? ⟨g5, 3, none⟩ = some (.string ⟨r1.x.toArray⟩) ∧ W.cell? ⟨g5, 4, none⟩ = some (.int .u64 r1.s.a) ∧ W.cell? ⟨g5, 5, none⟩ = some (.int .u64 r1.s.b) ∧ W.cell? ⟨g5, 6, none⟩ = some (.int .u64 r1.s.c) ∧ W.cell? ⟨g5, 7, none⟩ = some (.int .u64 r1.s.d) ∧ W.cell? ⟨g5, 8, none⟩ = some (.slice r1.ad r1.n r1.cap) ∧ W.cell? ⟨g5, 9, none⟩ = some (.int .i64 r1.mn) ∧ W.cell? ⟨g5, 10, none⟩ = some (.int .i64 r1.mx) ∧ W.cell? ⟨g5, 46, none⟩ = some (.int .i64 4) ∧ W.cell? ⟨g5, 47, none⟩ = some (.string ⟨#[121]⟩) ∧ W.cell? ⟨g5, 48, none⟩ = some (.int .i64 r2.k) ∧ W.cell? ⟨g5, 49, none⟩ = some (.string ⟨r2.x.toArray⟩) ∧ W.cell? ⟨g5, 50, none⟩ = some (.int .u64 r2.s.a) ∧ W.cell? ⟨g5, 51, none⟩ = some (.int .u64 r2.s.b) ∧ W.cell? ⟨g5, 52, none⟩ = some (.int .u64 r2.s.c) ∧ W.cell? ⟨g5, 53, none⟩ = some (.int .u64 r2.s.d) ∧ W.cell? ⟨g5, 54, none⟩ = some (.slice r2.ad r2.n r2.cap) ∧ W.cell? ⟨g5, 55, none⟩ = some (.int .i64 r2.mn) ∧ W.cell? ⟨g5, 56, none⟩ = some (.int .i64 r2.mx) ∧ W.cell? ⟨w4.heap.size, 0, none⟩ = some (.int .i64 k4) ∧ W.cell? ⟨w4.heap.size, 1, none⟩ = some (.string ⟨x4.toArray⟩) ∧ W.cell? ⟨w4.heap.size, 2, none⟩ = some (.int .u64 u4'.a) ∧ W.cell? ⟨w4.heap.size, 3, none⟩ = some (.int .u64 u4'.b) ∧ W.cell? ⟨w4.heap.size, 4, none⟩ = some (.int .u64 u4'.c) ∧ W.cell? ⟨w4.heap.size, 5, none⟩ = some (.int .u64 u4'.d) ∧ W.cell? ⟨w4.heap.size, 6, none⟩ = some (.slice ad4 n4 cap4) ∧ W.cell? ⟨w4.heap.size, 7, none⟩ = some (.int .i64 mn4) ∧ W.cell? ⟨w4.heap.size, 8, none⟩ = some (.int .i64 mx4)) from fun W hW => ⟨(World.cell?_of_block (hW.block g5 hg5l)).trans (hc0 0 _ rfl), (World.cell?_of_block (hW.block g5 hg5l)).trans (hc0 1 _ rfl), (World.cell?_of_block (hW.block g5 hg5l)).trans (hc0 2 _ rfl), (World.cell?_of_block (hW.block g5 hg5l)).trans (hc0 3 _ rfl), (World.cell?_of_block (hW.block g5 hg5l)).trans (hc0 4 _ rfl), (World.cell?_of_block (hW.block g5 hg5l)).trans (hc0 5 _ rfl), (World.cell?_of_block (hW.block g5 hg5l)).trans (hc0 6 _ rfl), (World.cell?_of_block (hW.block g5 hg5l)).trans (hc0 7 _ rfl), (World.cell?_of_block (hW.block g5 hg5l)).trans (hc0 8 _ rfl), (World.cell?_of_block (hW.block g5 hg5l)).trans (hc0 9 _ rfl), (World.cell?_of_block (hW.block g5 hg5l)).trans (hc0 10 _ rfl), (World.cell?_of_block (hW.block g5 hg5l)).trans (hc1 0 _ rfl), (World.cell?_of_block (hW.block g5 hg5l)).trans (hc1 1 _ rfl), (World.cell?_of_block (hW.block g5 hg5l)).trans (hc1 2 _ rfl), (World.cell?_of_block (hW.block g5 hg5l)).trans (hc1 3 _ rfl), (World.cell?_of_block (hW.block g5 hg5l)).trans (hc1 4 _ rfl), (World.cell?_of_block (hW.block g5 hg5l)).trans (hc1 5 _ rfl), (World.cell?_of_block (hW.block g5 hg5l)).trans (hc1 6 _ rfl), (World.cell?_of_block (hW.block g5 hg5l)).trans (hc1 7 _ rfl), (World.cell?_of_block (hW.block g5 hg5l)).trans (hc1 8 _ rfl), (World.cell?_of_block (hW.block g5 hg5l)).trans (hc1 9 _ rfl), (World.cell?_of_block (hW.block g5 hg5l)).trans (hc1 10 _ rfl), (World.cell?_of_block (hW.block w4.heap.size h4l)).trans (cell_of_row _ _ 0 _ _ _ HB4.out), (World.cell?_of_block (hW.block w4.heap.size h4l)).trans (cell_of_row _ _ 1 _ _ _ HB4.out), (World.cell?_of_block (hW.block w4.heap.size h4l)).trans (cell_of_row _ _ 2 _ _ _ HB4.out), (World.cell?_of_block (hW.block w4.heap.size h4l)).trans (cell_of_row _ _ 3 _ _ _ HB4.out), (World.cell?_of_block (hW.block w4.heap.size h4l)).trans (cell_of_row _ _ 4 _ _ _ HB4.out), (World.cell?_of_block (hW.block w4.heap.size h4l)).trans (cell_of_row _ _ 5 _ _ _ HB4.out), (World.cell?_of_block (hW.block w4.heap.size h4l)).trans (cell_of_row _ _ 6 _ _ _ HB4.out), (World.cell?_of_block (hW.block w4.heap.size h4l)).trans (cell_of_row _ _ 7 _ _ _ HB4.out), (World.cell?_of_block (hW.block w4.heap.size h4l)).trans (cell_of_row _ _ 8 _ _ _ HB4.out)⟩)
    clear hparts hor hc0 hc1 hre1 hre2 HI5 HR4 HB4 HD HR HX
    have hd0 := hid ((Below.refl w5.heap.size w5).drew)
    have hn5' : (2 : Int) ≤ n5 := by simp at hn5; omega
    have tk6 : True := trivial
    have tk7 : True := trivial
    have tk8 : True := trivial
    go_region_held3 (fun W => W.cell? ⟨g5, 0, none⟩ = some (.int .i64 1) ∧ W.cell? ⟨g5, 1, none⟩ = some (.string ⟨#[120]⟩) ∧ W.cell? ⟨g5, 2, none⟩ = some (.int .i64 r1.k) ∧ W.cell? ⟨g5, 3, none⟩ = some (.string ⟨r1.x.toArray⟩) ∧ W.cell? ⟨g5, 4, none⟩ = some (.int .u64 r1.s.a) ∧ W.cell? ⟨g5, 5, none⟩ = some (.int .u64 r1.s.b) ∧ W.cell? ⟨g5, 6, none⟩ = some (.int .u64 r1.s.c) ∧ W.cell? ⟨g5, 7, none⟩ = some (.int .u64 r1.s.d) ∧ W.cell? ⟨g5, 8, none⟩ = some (.slice r1.ad r1.n r1.cap) ∧ W.cell? ⟨g5, 9, none⟩ = some (.int .i64 r1.mn) ∧ W.cell? ⟨g5, 10, none⟩ = some (.int .i64 r1.mx) ∧ W.cell? ⟨g5, 46, none⟩ = some (.int .i64 4) ∧ W.cell? ⟨g5, 47, none⟩ = some (.string ⟨#[121]⟩) ∧ W.cell? ⟨g5, 48, none⟩ = some (.int .i64 r2.k) ∧ W.cell? ⟨g5, 49, none⟩ = some (.string ⟨r2.x.toArray⟩) ∧ W.cell? ⟨g5, 50, none⟩ = some (.int .u64 r2.s.a) ∧ W.cell? ⟨g5, 51, none⟩ = some (.int .u64 r2.s.b) ∧ W.cell? ⟨g5, 52, none⟩ = some (.int .u64 r2.s.c) ∧ W.cell? ⟨g5, 53, none⟩ = some (.int .u64 r2.s.d) ∧ W.cell? ⟨g5, 54, none⟩ = some (.slice r2.ad r2.n r2.cap) ∧ W.cell? ⟨g5, 55, none⟩ = some (.int .i64 r2.mn) ∧ W.cell? ⟨g5, 56, none⟩ = some (.int .i64 r2.mx) ∧ W.cell? ⟨w4.heap.size, 0, none⟩ = some (.int .i64 k4) ∧ W.cell? ⟨w4.heap.size, 1, none⟩ = some (.string ⟨x4.toArray⟩) ∧ W.cell? ⟨w4.heap.size, 2, none⟩ = some (.int .u64 u4'.a) ∧ W.cell? ⟨w4.heap.size, 3, none⟩ = some (.int .u64 u4'.b) ∧ W.cell? ⟨w4.heap.size, 4, none⟩ = some (.int .u64 u4'.c) ∧ W.cell? ⟨w4.heap.size, 5, none⟩ = some (.int .u64 u4'.d) ∧ W.cell? ⟨w4.heap.size, 6, none⟩ = some (.slice ad4 n4 cap4) ∧ W.cell? ⟨w4.heap.size, 7, none⟩ = some (.int .i64 mn4) ∧ W.cell? ⟨w4.heap.size, 8, none⟩ = some (.int .i64 mx4)) (first | exact HS.out _ (Below.refl _ _) | exact HS.out _ hd0.out | exact HS.out _ HB6.out | exact HS.out _ HB7.out | exact HS.out _ HB8.out) (first | (have _t := tk6; go_at_call 7; refine (awake_any _).mono ?_; rintro e w6 ⟨rfl, hb6⟩; have HB6 := hid (hd0.out.trans (hb6.mono (Nat.le_refl _))); clear tk6 _t) | (have _t := tk7; go_at_call 8; refine (same_yes _ x (Nat.lt_succ_self _) _ _ _ _ _ (HRI.out _ HB6.out).1 (HRI.out _ HB6.out).2.2).mono ?_; rintro e w7 ⟨rfl, hb7⟩; have HB7 := hid (HB6.out.trans (hb7.mono HB6.out.size)); clear tk7 _t) | (have _t := tk8; go_at_call 8; refine (same_yes _ x (Nat.lt_succ_self _) _ _ _ _ _ (HRI.out _ HB7.out).2.1 (HRI.out _ HB7.out).2.2).mono ?_; rintro e w8 ⟨rfl, hb8⟩; have HB8 := hid (HB7.out.trans (hb8.mono HB7.out.size)); clear tk8 _t))
    go_wp2_with fail
    go_ret
    exact ⟨rfl, hB5.trans (HB8.out.mono hB5.size)⟩
end Go.Proofs.Ytcedjjlflahpcaa
