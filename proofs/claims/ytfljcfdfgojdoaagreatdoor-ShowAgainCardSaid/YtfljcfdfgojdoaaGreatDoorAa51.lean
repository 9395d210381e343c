/-
  awake of chapter 8 returns true.
  ShowAgain: what a file that is parsed is, written.
-/
import Derived.Test.YtfljcfdfgojdoaaGreatDoorAa42
import Derived.Test.YtfljcfdfgojdoaaGreatDoorAa36
import Derived.Test.YtfljcfdfgojdoaaGreatDoorAa45
import Derived.Test.YtfljcfdfgojdoaaGreatDoorAa49
import Derived.Test.YtfljcfdfgojdoaaGreatDoorAa50
import Derived.Deep.DeepCutAuto
namespace Go.Proofs.YtfljcfdfgojdoaaGreatDoor.Sh
open Go.RowKit Go.Lib Go.Proofs.YtfljcfdfgojdoaaGreatDoor

theorem mkNode {F : Nat → Prop} {w : World} {g : Nat} {k : Int} {x : List B} {s : Se} {ps : List Re} {mn mx : Int} {cur : Array Value} (hg : w.heap[g]? = some (.cells cur 33 (0, 0))) (hF : F g) (hp : PartsIn F w ps cur.toList) (hc : cur.size = ps.length * 9) (hl : ps.length ≤ maxLen) :
    ReIn F w (.mk k x s ps mn mx) (reC k x s (.slice (some ⟨g, 0, none⟩) ps.length ps.length) mn mx) := by
  unfold ReIn
  refine ⟨_, _, cur.toList, rfl, ⟨hc, .inr ⟨g, ps.length, cur, rfl, Nat.zero_le _, hg, Nat.le_refl _, hl, hc, ?_⟩⟩, fun q hq => ?_, hp⟩
  · rw [← hc]; exact List.take_of_length_le (Nat.le_refl _)
  · simp [Value.ownBlock] at hq; subst hq; exact hF
abbrev A0 : Array Value := reC 2 [] bSet (.slice none 0 0) 0 0
abbrev A1 (N : Nat) : Array Value := reC 8 [] Se.none (.slice (some ⟨N, 0, none⟩) 1 1) 0 (-1)
abbrev A2 (N : Nat) : Array Value := #[.int .i64 1, .string ⟨#[97]⟩, .int .u64 0, .int .u64 0, .int .u64 0, .int .u64 0, .slice none 0 0, .int .i64 0, .int .i64 0, .int .i64 8, .string ⟨#[]⟩, .int .u64 0, .int .u64 0, .int .u64 0, .int .u64 0, .slice (some ⟨N, 0, none⟩) 1 1, .int .i64 0, .int .i64 (-1)]
abbrev A3 (N : Nat) : Array Value := reC 4 [] Se.none (.slice (some ⟨N + 1 + 1, 0, none⟩) 2 2) 0 0
abbrev A4 : Array Value := reC 3 [120] Se.none (.slice none 0 0) 0 0
abbrev A5 (N : Nat) : Array Value := reC 7 [] Se.none (.slice (some ⟨N + 1 + 1 + 1 + 1, 0, none⟩) 1 1) 0 0
abbrev A6 (N : Nat) : Array Value := #[.int .i64 4, .string ⟨#[]⟩, .int .u64 0, .int .u64 0, .int .u64 0, .int .u64 0, .slice (some ⟨N + 1 + 1, 0, none⟩) 2 2, .int .i64 0, .int .i64 0, .int .i64 7, .string ⟨#[]⟩, .int .u64 0, .int .u64 0, .int .u64 0, .int .u64 0, .slice (some ⟨N + 1 + 1 + 1 + 1, 0, none⟩) 1 1, .int .i64 0, .int .i64 0]
abbrev awW6 (w : World) : World := (((((w.alloc (.cells A0 33)).alloc (.cells (A1 w.heap.size) 33)).alloc (.cells (A2 w.heap.size) 33)).alloc (.cells (A3 w.heap.size) 33)).alloc (.cells A4 33)).alloc (.cells (A5 w.heap.size) 33)
abbrev awW (w : World) : World := (awW6 w).alloc (.cells (A6 w.heap.size) 33)
theorem heap_push (w : World) (o : Obj) : (w.alloc o).heap = w.heap.push o := rfl
theorem aw6_below (w : World) : Below w.heap.size w (awW6 w) := by
  unfold awW6
  repeat (first | exact Below.refl _ _ | refine Below.alloc ?_ (by simp; try omega) _)
theorem aw_below (w : World) : Below w.heap.size w (awW w) := (aw6_below w).alloc (by simp; omega) _
theorem aw_size (w : World) : (awW w).heap.size = w.heap.size + 7 := by simp
theorem aw_tree (w : World) : ReIn (fun g => g < w.heap.size + 7) (awW w) awRe (reC 5 [] Se.none (.slice (some ⟨w.heap.size + 1 + 1 + 1 + 1 + 1 + 1, 0, none⟩) 2 2) 0 0) := by
  have b0 : (awW w).heap[w.heap.size]? = some (.cells A0 33 (0, 0)) := by
    simp only [heap_push, Array.getElem?_push, Array.size_push]
    simp
    repeat rw [if_neg (by omega)]
  have b2 : (awW w).heap[w.heap.size + 1 + 1]? = some (.cells (A2 w.heap.size) 33 (0, 0)) := by simp only [heap_push, Array.getElem?_push, Array.size_push]; simp
  have b4 : (awW w).heap[w.heap.size + 1 + 1 + 1 + 1]? = some (.cells A4 33 (0, 0)) := by simp only [heap_push, Array.getElem?_push, Array.size_push]; simp
  have b6 : (awW w).heap[w.heap.size + 1 + 1 + 1 + 1 + 1 + 1]? = some (.cells (A6 w.heap.size) 33 (0, 0)) := by simp only [heap_push, Array.getElem?_push, Array.size_push]; simp
  obtain ⟨F, hF⟩ : ∃ F : Nat → Prop, F = fun g => g < w.heap.size + 7 := ⟨_, rfl⟩
  have f0 : F w.heap.size := by rw [hF]; show w.heap.size < _; omega
  have f2 : F (w.heap.size + 1 + 1) := by rw [hF]; show w.heap.size + 1 + 1 < _; omega
  have f4 : F (w.heap.size + 1 + 1 + 1 + 1) := by rw [hF]; show w.heap.size + 1 + 1 + 1 + 1 < _; omega
  have f6 : F (w.heap.size + 1 + 1 + 1 + 1 + 1 + 1) := by rw [hF]; show w.heap.size + 1 + 1 + 1 + 1 + 1 + 1 < _; omega
  rw [← hF]
  generalize awW w = W at *
  have t0 : ReIn F W (.mk 2 [] bSet [] 0 0) A0 := ReIn.leaf _ _ _ _ _ _ _
  have t1 : ReIn F W awStar (A1 w.heap.size) := mkNode (ps := [.mk 2 [] bSet [] 0 0]) b0 f0 (by unfold PartsIn PartsIn; exact ⟨A0, [], rfl, t0, rfl⟩) rfl (by simp [maxLen])
  have ta : ReIn F W (.mk 1 [97] Se.none [] 0 0) (reC 1 [97] Se.none (.slice none 0 0) 0 0) := ReIn.leaf _ _ _ _ _ _ _
  have t3 : ReIn F W awOne (A3 w.heap.size) := mkNode (ps := [.mk 1 [97] Se.none [] 0 0, awStar]) b2 f2 (by unfold PartsIn PartsIn PartsIn; exact ⟨_, _, rfl, ta, _, [], rfl, t1, rfl⟩) rfl (by simp [maxLen])
  have tx : ReIn F W (.mk 3 [120] Se.none [] 0 0) A4 := ReIn.leaf _ _ _ _ _ _ _
  have t5 : ReIn F W awTwo (A5 w.heap.size) := mkNode (ps := [.mk 3 [120] Se.none [] 0 0]) b4 f4 (by unfold PartsIn PartsIn; exact ⟨A4, [], rfl, tx, rfl⟩) rfl (by simp [maxLen])
  exact mkNode (ps := [awOne, awTwo]) b6 f6 (by unfold PartsIn PartsIn PartsIn; exact ⟨_, _, rfl, t3, _, [], rfl, t5, rfl⟩) rfl (by simp [maxLen])
theorem aw_se : SeRe awRe := by
  have n : SeOk Se.none := SeOk.none
  have b : SeOk bSet := ⟨⟨by decide, by decide⟩, ⟨by decide, by decide⟩, ⟨by decide, by decide⟩, ⟨by decide, by decide⟩⟩
  refine .mk _ _ _ _ _ _ n fun p hp => ?_
  simp at hp
  rcases hp with rfl | rfl
  · refine .mk _ _ _ _ _ _ n fun p hp => ?_
    simp at hp
    rcases hp with rfl | rfl
    · exact .mk _ _ _ _ _ _ n fun p hp => by simp at hp
    · refine .mk _ _ _ _ _ _ n fun p hp => ?_
      simp at hp
      subst hp
      exact .mk _ _ _ _ _ _ b fun p hp => by simp at hp
  · refine .mk _ _ _ _ _ _ n fun p hp => ?_
    simp at hp
    subst hp
    exact .mk _ _ _ _ _ _ n fun p hp => by simp at hp
theorem aw_tx : TxRe awRe := by
  refine .mk _ _ _ _ _ _ (by simp) fun p hp => ?_
  simp at hp
  rcases hp with rfl | rfl
  · refine .mk _ _ _ _ _ _ (by simp) fun p hp => ?_
    simp at hp
    rcases hp with rfl | rfl
    · exact .mk _ _ _ _ _ _ (by simp) fun p hp => by simp at hp
    · refine .mk _ _ _ _ _ _ (by simp) fun p hp => ?_
      simp at hp
      subst hp
      exact .mk _ _ _ _ _ _ (by simp) fun p hp => by simp at hp
  · refine .mk _ _ _ _ _ _ (by simp) fun p hp => ?_
    simp at hp
    subst hp
    exact .mk _ _ _ _ _ _ (by simp) fun p hp => by simp at hp
theorem aw_text : endM (reW setS awRe) (reD awRe) = ([34, 97, 34, 32, 91, 98, 93, 42, 32, 124, 32, 33, 120], 0) := by kernel_rfl
theorem aw_len : (reW setS awRe).length = 13 := by kernel_rfl
theorem aw_dep : reD awRe = 1 := by kernel_rfl
theorem aw_show : showRe awRe = ([34, 97, 34, 32, 91, 98, 93, 42, 32, 124, 32, 33, 120], 0) := by
  unfold showRe
  rw [if_pos (okRe_check aw_ok (by decide)), aw_text]
set_option maxRecDepth 100000 in
set_option maxHeartbeats 1000000 in
theorem awake8_any (w : World) : Calls Tryz.prog 14 #[] w fun e w' => e = .returned (.bool true) ∧ Below w.heap.size w w' := by
  have e24 := eq24
  have hbox := hid (show (w.alloc (.cells #[.int .u8 98] 5)).heap[w.heap.size]? = some (.cells #[.int .u8 98] 5 (0, 0)) from heap_alloc_new _ _)
  have hsz1 := hid (show (w.alloc (.cells #[.int .u8 98] 5)).heap.size = w.heap.size + 1 by simp)
  have HB1 := hid ((Below.refl w.heap.size w).alloc (Nat.le_refl _) (.cells #[.int .u8 98] 5))
  have HST := hid (fun (W : World) => showRe_any (F := fun g => g < W.heap.size + 7) (w := awW W) (fun g hg => by rw [aw_size]; exact hg) (ReG.ofIn (aw_tree W)) aw_tx aw_se (fun _ => by rw [aw_dep]; decide) (fun _ => by rw [aw_len]; decide))
  have HSH := hid aw_show
  go_enter Tryz.func14, Tryz.ntmps14
  go_upto_region 4 with (go_at_call 47; go_loud (refine (of_b _ _ hbox.out).mono ?_; rintro e w2 ⟨rfl, hb2⟩; have HB2 := hid (HB1.out.trans (hb2.mono (by rw [hsz1.out]; omega))); clear hb2))
  go_upto_region 5 with (go_at_call 17; go_loud (refine (HST.out w2).mono ?_; rw [HSH.out]; rintro e w3 ⟨rfl, hb3⟩))
  go_wp2
  go_ret
  exact ⟨rfl, HB2.out.trans ((aw_below w2).mono HB2.out.size |>.trans (hb3.mono (by have := HB2.out.size; rw [aw_size]; omega)))⟩
end Go.Proofs.YtfljcfdfgojdoaaGreatDoor.Sh

namespace Go.Proofs.YtfljcfdfgojdoaaGreatDoor.Sh
open Go.RowKit Go.Lib Go.Proofs.YtfljcfdfgojdoaaGreatDoor

theorem OkIt.rt {n : Nat} {x : It} (h : OkIt n x) : RtIt x := by
  have up : ∀ {r : Re}, GoodR n r → OkRe 200 r := fun h => h.ok.up (by decide)
  have nm : ∀ {s : List B}, GoodN s → nameOk s = true := fun h => nameOk_iff.2 h.ok
  have nb : ∀ {o b : List B}, (b = [] ∨ (o = [] ∧ GoodN b)) → (b = [] ∨ (o = [] ∧ nameOk b = true)) := fun h => h.imp_right fun h => ⟨h.1, nm h.2⟩
  cases h with
  | named k s r hk hs hr => exact .named _ _ _ hk (nm hs) (up hr)
  | map s m hs hm => exact .map _ _ (nm hs) (hm.ok.more (by decide))
  | rule r o b hr ho hb => exact .rule _ _ _ (up hr) ho (nb hb)
  | around r o b l q hr ho hb hl hq => exact .around _ _ _ _ _ (up hr) ho (nb hb) (up hl) (up hq)
theorem semp_zero : SeMp Mp.zero := .mk _ _ _ _ _ _ sere_zero fun p hp => by cases hp
theorem OkIt.se {n : Nat} {x : It} (h : OkIt n x) : SeIt x := by
  cases h with
  | named k s r hk hs hr => exact ⟨hr.se, sere_zero, sere_zero, semp_zero⟩
  | map s m hs hm => exact ⟨sere_zero, sere_zero, sere_zero, hm.se⟩
  | rule r o b hr ho hb => exact ⟨hr.se, sere_zero, sere_zero, semp_zero⟩
  | around r o b l q hr ho hb hl hq => exact ⟨hr.se, hl.se, hq.se, semp_zero⟩
theorem OkIt.d {n : Nat} {x : It} (h : OkIt n x) : itemD x ≤ 32 := by
  cases h with
  | named k s r hk hs hr =>
    have := hr.d
    show max (reD r) (max (reD Re.zero) (max (reD Re.zero) (mpD Mp.zero))) ≤ 32
    rw [reD_zero, mpD_zero]; omega
  | map s m hs hm =>
    have := hm.d
    show max (reD Re.zero) (max (reD Re.zero) (max (reD Re.zero) (mpD m))) ≤ 32
    rw [reD_zero]; omega
  | rule r o b hr ho hb =>
    have := hr.d
    show max (reD r) (max (reD Re.zero) (max (reD Re.zero) (mpD Mp.zero))) ≤ 32
    rw [reD_zero, mpD_zero]; omega
  | around r o b l q hr ho hb hl hq =>
    have := hr.d
    have := hl.d
    have := hq.d
    show max (reD r) (max (reD l) (max (reD q) (mpD Mp.zero))) ≤ 32
    rw [mpD_zero]; omega
theorem OkIt.len {n : Nat} {x : It} (h : OkIt n x) : (itemW setS x).length ≤ 9000 * n + 3000 := by
  have rl : ∀ {r : Re}, GoodR n r → (reW setS r).length ≤ 3000 * n := fun h => by
    have := reW_len _ _ h.ok
    have := h.n
    omega
  have ol : ∀ {o b : List B}, o.length ≤ 256 → (b = [] ∨ (o = [] ∧ GoodN b)) → (if b = [] then textW o else b).length ≤ 1100 := fun {o b} ho hb => by
    have := textW_len o
    rcases hb with rfl | ⟨_, hb⟩
    · rw [if_pos rfl]; omega
    · rw [if_neg hb.ne]
      have := hb.len
      omega
  cases h with
  | named k s r hk hs hr =>
    have := rl hr
    have := hs.len
    rcases hk with rfl | rfl
    · show ([100, 101, 102, 32] ++ s ++ [32, 61, 32] ++ reW setS r ++ [59, 10]).length ≤ _
      simp only [List.length_append, List.length_cons, List.length_nil]; omega
    · show ([116, 111, 107, 101, 110, 32] ++ s ++ [32, 61, 32] ++ reW setS r ++ [59, 10]).length ≤ _
      simp only [List.length_append, List.length_cons, List.length_nil]; omega
  | map s m hs hm =>
    have h1 := mpW_len _ _ hm.ok
    have h2 := hm.n
    have := hs.len
    show ([109, 97, 112, 32] ++ s ++ [32, 61, 32] ++ mpW setS m ++ [59, 10]).length ≤ _
    simp only [List.length_append, List.length_cons, List.length_nil]; omega
  | rule r o b hr ho hb =>
    have := rl hr
    have := ol ho hb
    show ([114, 117, 108, 101, 32] ++ reW setS r ++ [32, 45, 62, 32] ++ (if b = [] then textW o else b) ++ [] ++ [59, 10]).length ≤ _
    simp only [List.length_append, List.length_cons, List.length_nil]; omega
  | around r o b l q hr ho hb hl hq =>
    have := rl hr
    have := rl hl
    have := rl hq
    have := ol ho hb
    show ([114, 117, 108, 101, 32] ++ reW setS r ++ [32, 45, 62, 32] ++ (if b = [] then textW o else b) ++ ([32, 47, 32] ++ reW setS l ++ [32, 95, 32] ++ reW setS q) ++ [59, 10]).length ≤ _
    simp only [List.length_append, List.length_cons, List.length_nil]; omega
theorem flat_le {f : It → List B} {K : Nat} : ∀ {l : List It}, (∀ x ∈ l, (f x).length ≤ K) → (l.flatMap f).length ≤ l.length * K
  | [], _ => by simp
  | x :: l, h => by
    have h1 := h x List.mem_cons_self
    have h2 := flat_le fun y hy => h y (List.mem_cons_of_mem _ hy)
    rw [List.flatMap_cons, List.length_append, List.length_cons, Nat.succ_mul]
    omega
/-- what is known of a file that is parsed -/
structure Again (l : List It) : Prop where
  all : l.all itX = true
  tx : ∀ x ∈ l, TxIt x
  se : ∀ x ∈ l, SeIt x
  d : ∀ x ∈ l, itemD x ≤ 1000000
  len : (l.flatMap (itemW setS)).length ≤ 1099511627776
  shown : (showFile l = (l.flatMap (itemW setS), 0) ∧ (l.flatMap (itemW setS)).length ≤ 65536 ∧ parseFile ⟨(l.flatMap (itemW setS)).toArray⟩ = .ok l) ∨ showFile l = ([], 2)
theorem again_of {s : ByteArray} {l : List It} (hs : s.size ≤ 4000) (h : parseFile s = .ok l) : Again l := by
  obtain ⟨h1, h2⟩ := file_good h
  have hall : l.all itX = true := List.all_eq_true.2 fun x hx => (h2 x hx).rt.yes
  have hdl : dF l ≤ 32 := dF_le fun x hx => (h2 x hx).d
  refine ⟨hall, fun x hx => TxIt.ofRt (h2 x hx).rt, fun x hx => (h2 x hx).se, fun x hx => by have := (h2 x hx).d; omega, ?_, ?_⟩
  · have h3 := flat_le (f := itemW setS) (K := 9000 * (2 * (s.size + 1)) + 3000) fun x hx => (h2 x hx).len
    have h4 : l.length * (9000 * (2 * (s.size + 1)) + 3000) ≤ 256 * (9000 * (2 * (4000 + 1)) + 3000) := Nat.mul_le_mul h1 (by omega)
    omega
  · have he : showFile l = endM (l.flatMap (itemW setS)) (dF l) := by
      unfold showFile
      rw [if_neg (by omega), if_pos hall]; rfl
    rw [he]
    unfold endM
    rw [if_neg (by omega)]
    by_cases hl : 65536 < (l.flatMap (itemW setS)).length
    · rw [if_pos hl]; exact .inr rfl
    · rw [if_neg hl]
      exact .inl ⟨rfl, by omega, file_back h2 h1 (by omega)⟩
theorem reads_bad {s : ByteArray} {w w' : World} {e : Ending} {X : Except (Int × Int) (List It)} (h : ReadsPost s w X e w') {p y : Int} (hx : X = .error (p, y)) :
    Below w.heap.size w w' ∧ e = .returned (.tuple #[.slice none 0 0, .int .i64 p, .int .i64 y]) := by
  subst hx; exact h
theorem reads_good {s : ByteArray} {w w' : World} {e : Ending} {X : Except (Int × Int) (List It)} (h : ReadsPost s w X e w') {l : List It} (hx : X = .ok l) :
    Below w.heap.size w w' ∧ ∃ ad n, e = .returned (.tuple #[.slice ad l.length n, .int .i64 s.size, .int .i64 0]) ∧ Go.Proofs.YtfljcfdfgojdoaaGreatDoor.ItsG (fun g => w.heap.size ≤ g ∧ g < w'.heap.size) w' l (.slice ad l.length n) := by
  subst hx
  obtain ⟨hb, v, rfl, hi⟩ := h
  obtain ⟨ad, n, rfl⟩ := hi.shape
  exact ⟨hb, ad, n, rfl, hi.gen.frame (fun g h1 h2 => ⟨h1, h2⟩) (fun _ _ _ => rfl)⟩
theorem ItsG.res {F : Nat → Prop} {w : World} {l : List It} {ad : Option Addr} {n : Nat} (h : Go.Proofs.YtfljcfdfgojdoaaGreatDoor.ItsG F w l (.slice ad l.length n)) : ItsR F w l ad := by
  obtain ⟨ad', cap', e, h'⟩ := ItsG.r h
  injection e with e1 e2 e3
  subst e1
  exact h'
set_option maxRecDepth 100000 in
set_option maxHeartbeats 4000000 in
theorem showAgain_walk (s : ByteArray) (w : World) :
    Calls Tryz.prog 5 #[.string s] w fun e w' => e = .returned (.bool true) ∧ Below w.heap.size w w' := by
  have e24 := eq24
  by_cases h4 : 4000 < s.size
  · have hgt : (4000 : Int) < (s.size : Int) := by omega
    go_enter Tryz.func5, Tryz.ntmps5
    go_wp2
    go_ret
    exact ⟨rfl, Below.refl _ _⟩
  · have hgt : ¬ ((4000 : Int) < (s.size : Int)) := by omega
    have HPF := hid (parseFile_any s w (by omega))
    rcases hx : parseFile s with ⟨p, y⟩ | l
    · have HX := hid hx
      have hne : (y != 0) = true := by simpa using file_err hx
      clear hx
      go_enter Tryz.func5, Tryz.ntmps5
      go_wp2_with (first | (go_at_call 24; refine HPF.out.mono ?_; rintro e w1 hp; obtain ⟨hb1, rfl⟩ := reads_bad hp HX.out; have HB1 := hid hb1; clear hp hb1) | (go_at_call 14; refine (awake8_any _).mono ?_; rintro e w2 ⟨rfl, hb2⟩))
      go_ret
      exact ⟨rfl, HB1.out.trans (hb2.mono HB1.out.size)⟩
    · have HA := hid (again_of (by omega) hx)
      have HX := hid hx
      clear hx
      go_enter Tryz.func5, Tryz.ntmps5
      go_upto_region 5 with (go_at_call 24; refine HPF.out.mono ?_; rintro e W1 hp; obtain ⟨hb1, ad1, n1, rfl, hi1⟩ := reads_good hp HX.out; have HB1 := hid hb1; have HI1 := hid hi1; clear hp hb1 hi1)
      have hsf := showFile_any (w := W1) (cap := n1) (fun g hg => hg.2) (ItsG.res HI1.out) HA.out.tx HA.out.se (fun _ _ => HA.out.d) (fun _ _ => HA.out.len)
      rcases HA.out.shown with ⟨hsh, hlen, hpb⟩ | hsh
      · rw [hsh] at hsf
        have HSH := hid hsh
        have HPB := hid hpb
        have hss : (⟨(l.flatMap (itemW setS)).toArray⟩ : ByteArray).size ≤ 65536 := by rw [str_size]; exact hlen
        have HSS := hid hss
        clear hsh hpb hlen hss
        generalize hT : l.flatMap (itemW setS) = T at *
        clear hT
        go_upto_region 8 with (go_at_call 12; refine hsf.mono ?_; clear hsf; rintro e W2 ⟨rfl, hb2⟩; have HB2 := hid hb2; clear hb2)
        go_upto_region 9 with (go_at_call 24; refine (parseFile_any _ W2 HSS.out).mono ?_; rintro e W3 hp; obtain ⟨hb3, ad3, n3, rfl, hi3⟩ := reads_good hp HPB.out; have HB3 := hid hb3; have HI3 := hid hi3; clear hp hb3 hi3)
        have hsf := showFile_any (w := W3) (cap := n3) (fun g hg => hg.2) (ItsG.res HI3.out) HA.out.tx HA.out.se (fun _ _ => HA.out.d) (fun _ _ => HA.out.len)
        rw [HSH.out] at hsf
        go_upto_region 10 with (go_at_call 12; refine hsf.mono ?_; clear hsf; rintro e W4 ⟨rfl, hb4⟩; have HB4 := hid hb4; clear hb4)
        have tsz : (((⟨T.toArray⟩ : ByteArray).size : Int) == ((⟨T.toArray⟩ : ByteArray).size : Int)) = true := by simp
        have HLW := hid (show ∀ W5, Below W4.heap.size W4 W5 → Below w.heap.size w W5 from fun W5 h5 => HB1.out.trans ((HB2.out.trans ((HB3.out.trans ((HB4.out.trans (h5.mono HB4.out.size)).mono HB3.out.size)).mono HB2.out.size)).mono HB1.out.size))
        have HI1' := hid (show ∀ W5, Below W4.heap.size W4 W5 → Go.Proofs.YtfljcfdfgojdoaaGreatDoor.ItsG (fun g => w.heap.size ≤ g ∧ g < W1.heap.size) W5 l (.slice ad1 l.length n1) from fun W5 h5 => HI1.out.frame (fun g h _ => h) (fun g h1 h2 => (h5.block g (by have := HB2.out.size; have := HB3.out.size; have := HB4.out.size; omega)).trans ((HB4.out.block g (by have := HB2.out.size; have := HB3.out.size; omega)).trans ((HB3.out.block g (by have := HB2.out.size; omega)).trans (HB2.out.block g h2)))))
        have HI3' := hid (show ∀ W5, Below W4.heap.size W4 W5 → Go.Proofs.YtfljcfdfgojdoaaGreatDoor.ItsG (fun g => W2.heap.size ≤ g ∧ g < W3.heap.size) W5 l (.slice ad3 l.length n3) from fun W5 h5 => HI3.out.frame (fun g h _ => h) (fun g h1 h2 => (h5.block g (by have := HB4.out.size; omega)).trans (HB4.out.block g h2)))
        go_wp2_with (first | (go_at_call 14; refine (awake8_any _).mono ?_; rintro e W5 ⟨rfl, hb5⟩; have HB5 := hid hb5; clear hb5) | (go_at_call 25; refine (items_yes (HI1'.out _ HB5.out) (HI3'.out _ HB5.out)).mono ?_; rintro e W6 ⟨rfl, hb6⟩; have HB6 := hid hb6; clear hb6))
        go_ret
        exact ⟨rfl, HLW.out _ (HB5.out.trans (HB6.out.mono HB5.out.size))⟩
      · rw [hsh] at hsf
        clear hsh
        go_wp2_with (first | (go_at_call 12; refine hsf.mono ?_; clear hsf; rintro e W2 ⟨rfl, hb2⟩; have HB2 := hid hb2; clear hb2) | (go_at_call 14; refine (awake8_any _).mono ?_; rintro e W5 ⟨rfl, hb5⟩; have HB5 := hid hb5; clear hb5))
        go_ret
        exact ⟨rfl, HB1.out.trans ((HB2.out.trans (HB5.out.mono HB2.out.size)).mono HB1.out.size)⟩
end Go.Proofs.YtfljcfdfgojdoaaGreatDoor.Sh
