/-
  The closures that write a map: brackets; the contract of mapping.
  What the parser makes of a text in brackets, of two of them, of one behind a sign that says not; no program in sight.
  parse.Check tells no fault of an expression that may be; the example of the chapter, parsed by the plain function.
  Every expression that the parser tells of tokens that the lexer gave may be, of no more than 133 levels; no program in sight.
  parse.deep, parse.right, parse.Check as they are: the contracts both ways.
  parse.mayBeName, mayBeOften, right as they are.
  parse.right as it is, kind by kind. (Printed by genRt.py.)
-/
import Derived.Test.YtfljcfdfgojdoaaGreatDoorFa18
import Derived.Test.YtfljcfdfgojdoaaGreatDoorFa16
import Derived.Test.YtfljcfdfgojdoaaGreatDoorFa13
namespace Go.Proofs.YtfljcfdfgojdoaaGreatDoor.Sh
open Go.RowKit Go.Lib Go.Proofs.YtfljcfdfgojdoaaGreatDoor

set_option maxRecDepth 100000 in
set_option maxHeartbeats 1000000 in
theorem mbracket_any {P Bp Br : Nat} {w : World} {d m M : Nat} {l x : List B} (hW : SW P w d m l) (hd : d ≤ 1000000) (hm : m ≤ 1000000) (hl : l.length + x.length ≤ 2199023255552)
    (H : ∀ W, SW P W (d + 1) (max m (d + 1)) (l ++ [40]) → Upd P w W → Calls Tryz.prog 115 #[ptrV Bp, ptrV Br] W (WPost P W (d + 1) M (l ++ [40] ++ x))) :
    Calls Tryz.prog 98 #[ptrV P, .func (.func 115) #[] #[ptrV Bp, ptrV Br]] w (WPost P w d M (l ++ 40 :: (x ++ [41]))) := by
  have HH := hid H
  clear H
  have hput := put_any ⟨#[40]⟩ hW (by show l.length + 1 ≤ _; omega)
  clear hW
  go_enter Tryz.func98, Tryz.ntmps98
  go_upto_region 1 with (go_at_call 86; refine hput.mono ?_; clear hput; rintro e W1 ⟨rfl, hw1, hu1⟩; have HU1 := hid hu1; have HW1 := hid hw1; clear hu1 hw1)
  have hent := enter_any HW1.out (by omega) (by omega)
  go_upto_region 2 with (go_at_call 100; refine hent.mono ?_; clear hent; rintro e W2 ⟨rfl, hw2, hu2⟩; have HU2 := hid (HU1.out.trans hu2); have HW2 := hid hw2; clear hu2 hw2)
  have hcall := HH.out W2 HW2.out HU2.out
  go_upto_region 3 with (go_at_call 115; refine hcall.mono ?_; clear hcall; rintro e W3 ⟨rfl, hw3, hu3⟩; have HU3 := hid (HU2.out.trans hu3); have HW3 := hid hw3; clear hu3 hw3)
  have hlea := leave_any HW3.out (by omega)
  go_upto_region 4 with (go_at_call 101; refine hlea.mono ?_; clear hlea; rintro e W4 ⟨rfl, hw4, hu4⟩; have HU4 := hid (HU3.out.trans hu4); have HW4 := hid hw4; clear hu4 hw4)
  have hput2 := put_any ⟨#[41]⟩ HW4.out (by simp only [List.length_append, List.length_cons, List.length_nil]; show _ + 1 ≤ _; omega)
  go_wp2_with (go_at_call 86; refine hput2.mono ?_; clear hput2; rintro e W5 ⟨rfl, hw5, hu5⟩)
  go_end0
  refine ⟨rfl, ?_, HU4.out.trans hu5⟩
  rw [show l ++ 40 :: (x ++ [41]) = l ++ [40] ++ x ++ [41] by simp]
  exact hw5
set_option maxRecDepth 100000 in
set_option maxHeartbeats 1000000 in
theorem mpart_br {P Bw Bp Bj : Nat} {r : Mp} (hp : MPartOk P Bw Bp Bj r 0) {asked : Nat} (ha : mlev r < asked) : MPartOk P Bw Bp Bj r asked := by
  intro y w d m l hr hE hW hdm hD hm hL
  have hr0 := hr
  have hyk : mlevK y.k = mlev r := by
    obtain ⟨k, x, s, ps, mn, mx⟩ := r
    have := hr.open.1
    rw [this]; rfl
  obtain ⟨e1, e2⟩ := maskW_own (r := r) (asked := 0) (by omega)
  have e3 : maskW setS r asked = 40 :: (maskW setS r 0 ++ [41]) := by rw [e1]; unfold maskW; rw [if_pos ha]
  have e4 : maskD r asked = maskD r 0 + 1 := by rw [e2]; unfold maskD; rw [if_pos ha]
  rw [e3] at hL
  rw [e4] at hD
  rw [e3, e4]
  have ha' : ((mlev r : Nat) : Int) < (asked : Int) := Int.ofNat_lt.2 ha
  have hlev := mlevel_any y
  rw [hyk] at hlev
  generalize mlev r = lk at *
  have HW := hid hW
  have HE := hid hE
  have hPw := hW.lt
  have HU0 := hid ((Upd.refl P w).alloc (.cells y.cs 36))
  have HW0 := hid (hW.alloc (.cells y.cs 36))
  have hb0 : (w.alloc (.cells y.cs 36)).heap[w.heap.size]? = some (.cells y.cs 36 (0, 0)) := heap_alloc_new _ _
  have HFACT := hid (show ∀ W : World, Upd P (w.alloc (.cells y.cs 36)) W → Four10 W w.heap.size y ∧ W.cell? ⟨Bw, 0, none⟩ = some (ptrV P) ∧ W.cell? ⟨Bp, 0, none⟩ = some (.func (.func 113) #[] #[ptrV Bw, ptrV Bp, ptrV Bj]) from fun W hu =>
    ⟨four10_of (hu.row hb0 (by decide) (by omega)), cell_blk (HE.out.upd (HU0.out.trans hu)).bw rfl, cell_blk (HE.out.upd (HU0.out.trans hu)).bp rfl⟩)
  have HIN := hid (show ∀ W : World, Upd P (w.alloc (.cells y.cs 36)) W → SW P W (d + 1) (max m (d + 1)) (l ++ [40]) → Calls Tryz.prog 115 #[ptrV Bp, ptrV w.heap.size] W (WPost P W (d + 1) (max (max m (d + 1)) (d + 1 + maskD r 0)) (l ++ [40] ++ maskW setS r 0)) from fun W hu hw => by
    obtain ⟨⟨c0, c1, c2, c3, c4, c5, c6, c7, c8, c9, c10, c11, c12, c13⟩, _, cp⟩ := HFACT.out W hu
    have hcall := hp _ W (d + 1) _ _ (hr0.upd (HU0.out.trans hu)) (HE.out.upd (HU0.out.trans hu)) hw (by omega) (by omega) (by omega) (by
      rw [List.length_append]
      simp only [List.length_cons, List.length_nil, List.length_append] at hL ⊢
      omega)
    clear hr hr0 hE hW hp e1 e2 e3 e4 hL hD HFACT HU0 HW0 HE HW hlev hb0 hu hw ha ha' hyk
    go_enter Tryz.func115, Tryz.ntmps115
    go_wp2_with (go_at_call 113; refine hcall.mono ?_; clear hcall; rintro e W1 ⟨rfl, hw1, hu1⟩)
    go_end0
    exact ⟨rfl, hw1, hu1⟩)
  obtain ⟨⟨c0, c1, c2, c3, c4, c5, c6, c7, c8, c9, c10, c11, c12, c13⟩, cw, cp⟩ := HFACT.out _ (Upd.refl _ _)
  have hx : l.length + (maskW setS r 0).length ≤ 1099511627776 := by
    simp only [List.length_cons, List.length_append, List.length_nil] at hL; omega
  clear hr hr0 hE hW hp e1 e2 e3 e4 hb0 hL ha hyk
  generalize maskW setS r 0 = X at *
  generalize maskD r 0 = D at *
  have hdd : d ≤ 1000000 := by omega
  go_enter Tryz.func113, Tryz.ntmps113
  go_upto_region 1 with fail
  generalize w.alloc (.cells y.cs 36) = W0 at *
  go_upto_region 2 with (go_at_call 114; refine (hlev _).mono ?_; clear hlev; rintro e W1 ⟨rfl, hb1⟩; have HU1 := hid (Upd.below (Upd.refl P W0) hb1); have HW1 := hid (HW0.out.below hb1); clear hb1 c0 c1 c2 c3 c4 c5 c6 c7 c8 c9 c10 c11 c12 c13 cw cp; obtain ⟨_, cw, cp⟩ := HFACT.out _ HU1.out)
  have hbr := mbracket_any (Bp := Bp) (Br := w.heap.size) HW1.out hdd hm (by omega) fun W hw hu => HIN.out W (HU1.out.trans hu) hw
  go_wp2_with (go_at_call 98; refine hbr.mono ?_; clear hbr; rintro e W2 ⟨rfl, hw2, hu2⟩)
  go_end0
  refine ⟨rfl, ?_, HU0.out.trans (HU1.out.trans hu2)⟩
  rw [show max m (d + (D + 1)) = max (max m (d + 1)) (d + 1 + D) by omega]
  exact hw2
theorem MNode.oft {r : Re} {o : List B} {n : Nat} {lo hi : Int} (h : MNode 5 r o n lo hi) : oftOk lo hi := by
  generalize hk : (5 : Int) = k at h
  cases h <;> simp at hk
  rename_i h
  rcases h with h | h | ⟨rfl, rfl⟩
  · exact .inl h
  · exact .inr (.inl h)
  · exact .inr (.inr ⟨by decide, by decide, by decide⟩)
theorem mpart_any {P Bw Bp Bj : Nat} : ∀ (h : Nat) (r : Mp), OkMp h r → SeMp r → ∀ asked, asked ≤ 3 → MPartOk P Bw Bp Bj r asked
  | 0, r, hr, _ => by simp [OkMp] at hr
  | h + 1, .mk k r o ps mn mx, hr, hs => by
    have hr' : MNode k r o ps.length mn mx ∧ ∀ p ∈ ps, OkMp h p := by simpa [OkMp] using hr
    obtain ⟨hn, hp⟩ := hr'
    have ih : ∀ p ∈ ps, ∀ asked, asked ≤ 3 → MPartOk P Bw Bp Bj p asked := fun p hpp => mpart_any h p (hp p hpp) (hs.part hpp)
    have hre := hs.re
    clear hr hs hp
    have own : ∀ asked, asked ≤ 3 → ¬ mlevK k < asked → MPartOk P Bw Bp Bj (.mk k r o ps mn mx) asked := by
      intro asked ha hl
      generalize hpl : ps.length = n at hn
      have hleaf : n = 0 → mn = 0 → mx = 0 → (k = 1 ∨ k = 2) → MPartOk P Bw Bp Bj (.mk k r o ps mn mx) asked := fun h0 h1 h2 hk => by
        subst h0 h1 h2
        obtain rfl := List.length_eq_zero_iff.1 hpl
        exact mpart_leaf hn hk hre ha
      cases hn with
      | same r h => exact hleaf rfl rfl rfl (.inl rfl)
      | out r o h ho => exact hleaf rfl rfl rfl (.inr rfl)
      | cat n h => exact mpart_row (.inl rfl) ps (fun p hpp => ih p hpp 2 (by omega)) hl
      | alt n h => exact mpart_row (.inr rfl) ps (fun p hpp => ih p hpp 1 (by omega)) hl
      | rep a b h =>
        obtain ⟨p, rfl⟩ := mone_of hpl
        exact mpart_rep p (MNode.oft (.rep _ _ h)) (ih p List.mem_cons_self 3 (by omega)) hl
    intro asked ha
    by_cases hl : mlevK k < asked
    · exact mpart_br (own 0 (by omega) (by omega)) hl
    · exact own asked ha hl
set_option maxRecDepth 100000 in
set_option maxHeartbeats 1000000 in
theorem mapping_any {P h : Nat} {r : Mp} {y : Mw} {w : World} {d m : Nat} {l : List B} (hr : OkMp h r) (hs : SeMp r) (hG : MpG (fun g => g < P) w r y) (hW : SW P w d m l) (hdm : d ≤ m) (hD : d + mpD r ≤ 1000000) (hm : m ≤ 1000000) (hL : l.length + (mpW setS r).length ≤ 1099511627776) :
    Calls Tryz.prog 56 #[ptrV P, .agg y.cs] w (WPost P w d (max m (d + mpD r)) (l ++ mpW setS r)) := by
  obtain ⟨e1, e2⟩ := maskW_own (r := r) (asked := 0) (by omega)
  rw [← e1] at hL ⊢
  rw [← e2] at hD ⊢
  have HP := hid (mpart_any (P := P) (Bw := w.heap.size) (Bp := w.heap.size + 1 + 1) (Bj := w.heap.size + 1 + 1 + 1) h r hr hs 0 (by omega))
  have HG := hid hG
  have HW := hid hW
  have hPw := hW.lt
  obtain ⟨f0, f1, f2, f3⟩ := four (w := w) (.cells #[ptrV P] 70) (.cells y.cs 36) (.cells #[.nilFunc] 149) (.cells #[.func (.func 112) #[] #[ptrV w.heap.size, ptrV (w.heap.size + 1 + 1)]] 150)
  have HU4 := hid (((((Upd.refl P w).alloc (.cells #[ptrV P] 70)).alloc (.cells y.cs 36)).alloc (.cells #[.nilFunc] 149)).alloc (.cells #[.func (.func 112) #[] #[ptrV w.heap.size, ptrV (w.heap.size + 1 + 1)]] 150))
  have HW4 := hid ((((hW.alloc (.cells #[ptrV P] 70)).alloc (.cells y.cs 36)).alloc (.cells #[.nilFunc] 149)).alloc (.cells #[.func (.func 112) #[] #[ptrV w.heap.size, ptrV (w.heap.size + 1 + 1)]] 150))
  have g2 := cell_blk (i := 0) f2 rfl
  have z2 := free_box (i := 0) f2
  have F0 := hid f0
  have F1 := hid f1
  have F2 := hid f2
  have F3 := hid f3
  clear hG hW hr hs e1 e2 f0 f1 f2 f3
  go_enter Tryz.func56, Tryz.ntmps56
  go_upto_region 3 with fail
  generalize (((w.alloc (.cells #[ptrV P] 70)).alloc (.cells y.cs 36)).alloc (.cells #[.nilFunc] 149)).alloc (.cells #[.func (.func 112) #[] #[ptrV w.heap.size, ptrV (w.heap.size + 1 + 1)]] 150) = W4 at *
  go_upto_region 4 with fail
  have HE := hid (show MEnv P w.heap.size (w.heap.size + 1 + 1) (w.heap.size + 1 + 1 + 1) (W4.setCell ⟨w.heap.size + 1 + 1, 0, none⟩ (.func (.func 113) #[] #[ptrV w.heap.size, ptrV (w.heap.size + 1 + 1), ptrV (w.heap.size + 1 + 1 + 1)])) from
    ⟨(box_other _ (by omega)).trans F0.out, heap_setCell_same _ _ _ _ _ _ F2.out, (box_other _ (by omega)).trans F3.out, by omega, by omega, by omega⟩)
  have HB := hid (show (W4.setCell ⟨w.heap.size + 1 + 1, 0, none⟩ (.func (.func 113) #[] #[ptrV w.heap.size, ptrV (w.heap.size + 1 + 1), ptrV (w.heap.size + 1 + 1 + 1)])).heap[w.heap.size + 1]? = some (.cells y.cs 36 (0, 0)) from (box_other _ (by omega)).trans F1.out)
  have HU5 := hid (show Upd P w (W4.setCell ⟨w.heap.size + 1 + 1, 0, none⟩ (.func (.func 113) #[] #[ptrV w.heap.size, ptrV (w.heap.size + 1 + 1), ptrV (w.heap.size + 1 + 1 + 1)])) from
    ⟨HU4.out.os, HU4.out.tape, HU4.out.output, by simpa using HU4.out.size, fun q hq hp hc => (box_other _ (by omega)).trans (HU4.out.block q hq hp hc)⟩)
  have HW5 := hid (show SW P (W4.setCell ⟨w.heap.size + 1 + 1, 0, none⟩ (.func (.func 113) #[] #[ptrV w.heap.size, ptrV (w.heap.size + 1 + 1), ptrV (w.heap.size + 1 + 1 + 1)])) d m l from by
    obtain ⟨v, h1, h2⟩ := HW4.out
    refine ⟨v, (box_other _ (by omega)).trans h1, ownsRow_same h2 fun q cur hq _ => box_other _ ?_⟩
    rintro rfl
    rw [F2.out] at hq
    cases hq)
  generalize W4.setCell ⟨w.heap.size + 1 + 1, 0, none⟩ (.func (.func 113) #[] #[ptrV w.heap.size, ptrV (w.heap.size + 1 + 1), ptrV (w.heap.size + 1 + 1 + 1)]) = W5 at *
  obtain ⟨c0, c1, c2, c3, c4, c5, c6, c7, c8, c9, c10, c11, c12, c13⟩ := four10_of HB.out
  have cp := cell_blk (i := 0) HE.out.bp rfl
  have hcall := HP.out _ W5 d m l (HG.out.upd HU5.out) HE.out HW5.out hdm hD hm hL
  clear g2 z2
  go_wp2_with (go_at_call 113; refine hcall.mono ?_; clear hcall; rintro e W6 ⟨rfl, hw6, hu6⟩)
  go_end0
  exact ⟨rfl, hw6, HU5.out.trans hu6⟩
end Go.Proofs.YtfljcfdfgojdoaaGreatDoor.Sh

namespace Go.Proofs.YtfljcfdfgojdoaaGreatDoor
open Go.Lib

/-- the tokens of T, places aside, are these, and then comes the end -/
structure Bases (T : List Tok) (ms : List Tok) : Prop where
  at' : ∀ i t, ms[i]? = some t → (tokAt T i).base = t
  fin : (tokAt T ms.length).kind = 0
  len : T.length = ms.length + 1
theorem Bases.nz {T ms : List Tok} (h : Bases T ms) (hm : ∀ t ∈ ms, t.kind ≠ 0) : ∀ i, i < ms.length → (tokAt T i).kind ≠ 0 := by
  intro i hi
  have := h.at' i _ (List.getElem?_eq_getElem hi)
  have hk := (base_parts (t := ms[i]) (t' := tokAt T i) (by rw [this]; have h2 := h.at' i _ (List.getElem?_eq_getElem hi); rw [← h2]; rfl)).1
  rw [hk]
  exact hm _ (List.getElem_mem hi)
theorem sb_base (c : B) {t : Tok} (h : t.base = sb c) (s : B) : isB t [s] = (c == s) := by
  have : t.base = (sb c).base := h
  rw [isB_same this]
  simp [isB, sb]
section
variable {T ms : List Tok} {s : ByteArray} {r : Re} {bs : List Tok}
theorem Bases.sign {T ms pre post : List Tok} {c : B} (h : Bases T ms) (hm : ms = pre ++ sb c :: post) : (tokAt T pre.length).base = sb c := by
  subst hm
  exact h.at' _ _ (by simp)
/-- behind the part no sign tells how often it may stand -/
structure NoRep (t : Tok) : Prop where
  a : isB t [42] = false
  b : isB t [43] = false
  c : isB t [63] = false
  d : isB t [123] = false
theorem NoRep.sb {t : Tok} {c : B} (h : t.base = sb c) (h1 : c ≠ 42) (h2 : c ≠ 43) (h3 : c ≠ 63) (h4 : c ≠ 123) : NoRep t := by
  constructor <;> rw [sb_base c h] <;> exact beq_eq_false_iff_ne.2 (by assumption)
theorem NoRep.fin {t : Tok} (h : t.kind = 0) : NoRep t :=
  ⟨(Ends.fin h).s _ (by decide), (Ends.fin h).s _ (by decide), (Ends.fin h).s _ (by decide), (Ends.fin h).s _ (by decide)⟩
section
variable {s t : ByteArray} {r q : Re} {bs cs : List Tok}
end
end
end Go.Proofs.YtfljcfdfgojdoaaGreatDoor

namespace Go.Proofs.YtfljcfdfgojdoaaGreatDoor
open Go.RowKit Go.Lib

abbrev bSet : Se := ⟨0, 17179869184, 0, 0⟩
abbrev awStar : Re := .mk 8 [] Se.none [.mk 2 [] bSet [] 0 0] 0 (-1)
abbrev awOne : Re := .mk 4 [] Se.none [.mk 1 [97] Se.none [] 0 0, awStar] 0 0
abbrev awTwo : Re := .mk 7 [] Se.none [.mk 3 [120] Se.none [] 0 0] 0 0
abbrev awRe : Re := .mk 5 [] Se.none [awOne, awTwo] 0 0
theorem aw_name : NameOk ⟨#[120]⟩ := by
  refine ⟨?_, ?_, ?_, ?_⟩ <;> kernel_rfl
theorem aw_ok : OkRe 5 awRe := by
  have h1 : ∀ n, OkRe (n + 1) (.mk 2 [] bSet [] 0 0) := fun n => by simp only [OkRe]; exact ⟨.set _, by simp⟩
  have h2 : ∀ n, OkRe (n + 1) (.mk 1 [97] Se.none [] 0 0) := fun n => by simp only [OkRe]; exact ⟨.text _ (by simp), by simp⟩
  have h3 : ∀ n, OkRe (n + 1) (.mk 3 [120] Se.none [] 0 0) := fun n => by simp only [OkRe]; exact ⟨.name _ aw_name (by simp), by simp⟩
  have h4 : ∀ n, OkRe (n + 2) awStar := fun n => by
    unfold OkRe
    exact ⟨.rep _ _ (.inl ⟨rfl, .inl rfl⟩), fun p hp => by simp at hp; subst hp; exact h1 n⟩
  have h5 : ∀ n, OkRe (n + 3) awOne := fun n => by
    unfold OkRe
    exact ⟨.cat 2 (by omega), fun p hp => by simp at hp; rcases hp with rfl | rfl; exact h2 _; exact h4 _⟩
  have h6 : ∀ n, OkRe (n + 2) awTwo := fun n => by
    unfold OkRe
    exact ⟨.not, fun p hp => by simp at hp; subst hp; exact h3 n⟩
  unfold OkRe
  exact ⟨.alt 2 (by omega), fun p hp => by simp at hp; rcases hp with rfl | rfl; exact h5 1; exact h6 2⟩

theorem OkRe.up : ∀ {n m : Nat} {r : Re}, OkRe n r → n ≤ m → OkRe m r
  | 0, _, _, h, _ => by simp [OkRe] at h
  | n + 1, 0, _, _, h => by omega
  | n + 1, m + 1, .mk _ _ _ ps _ _, h, hm => by
    simp only [OkRe] at h ⊢
    exact ⟨h.1, fun p hp => OkRe.up (h.2 p hp) (by omega)⟩

set_option maxRecDepth 100000 in
set_option maxHeartbeats 1000000 in
theorem of_b (w : World) (g : Nat) (hg : w.heap[g]? = some (.cells #[.int .u8 98] 5 (0, 0))) :
    Calls Tryz.prog 47 #[.slice (some ⟨g, 0, none⟩) 1 1] w fun e w' => e = .returned bSet.v ∧ Below w.heap.size w w' := by
  have hl := (Array.getElem?_eq_some_iff.1 hg).1
  have c0 : w.cell? ⟨g, 0, none⟩ = some (.int .u8 98) := cell_of_row _ _ 0 _ _ _ hg
  go_enter Tryz.func47, Tryz.ntmps47
  go_wp2
  refine wp_loop_rounds 2 ?_
  rw [rounds_succ]
  go_wp2
  rw [rounds_succ]
  go_wp2
  have hbit : bits .or .u64 0 17179869184 = 17179869184 := by kernel_rfl
  rw [hbit]
  exact bodyPost_ret (v := bSet.v) (by simp [results, Tryz.results47, go_sem]) rfl ⟨rfl, (((Below.refl _ w).alloc (Nat.le_refl _) _).alloc (by simp) _)⟩
end Go.Proofs.YtfljcfdfgojdoaaGreatDoor

namespace Go.Proofs.YtfljcfdfgojdoaaGreatDoor
open Go.Lib

/-- what the parser relies on in a token -/
structure TokOk (t : Tok) : Prop where
  text : t.kind = 2 → t.text.length ≤ 256
  name : t.kind = 1 → t.text.length ≤ 31 ∧ (nextL 0 t.text).err = 0 ∧ (nextL 0 t.text).tok.kind = 1 ∧ (nextL 0 t.text).tok.text = t.text
theorem TokOk.base {t t' : Tok} (h : TokOk t) (he : t'.base = t.base) : TokOk t' := by
  obtain ⟨h1, h2, _, _⟩ := base_parts he
  exact ⟨fun hk => by rw [h2]; exact h.text (h1 ▸ hk), fun hk => by rw [h2]; exact h.name (h1 ▸ hk)⟩
theorem white_letter {c : B} {r : List B} (h : letterB c.toNat = true) : white false (c :: r) = c :: r := by
  have h1 : ¬ (((c.toNat : Int) == 32) = true ∨ ((c.toNat : Int) == 10) = true ∨ ((c.toNat : Int) == 13) = true ∨ ((c.toNat : Int) == 9) = true) := by
    simp only [beq_iff_eq]
    simp [letterB] at h
    omega
  have h2 : ¬ ((c.toNat : Int) == 35) = true := by
    simp only [beq_iff_eq]
    simp [letterB] at h
    omega
  rw [white, if_neg h1, if_neg h2]
section
variable {T : List Tok} (hT : ∀ i, TokOk (tokAt T i))
include hT
end
end Go.Proofs.YtfljcfdfgojdoaaGreatDoor

namespace Go.Proofs.YtfljcfdfgojdoaaGreatDoor.Sh
open Go.RowKit Go.Lib Go.Proofs.YtfljcfdfgojdoaaGreatDoor

def deepB : Nat → Re → Bool
  | 0, _ => true
  | n + 1, .mk _ _ _ ps _ _ => ps.any (deepB n)
theorem any_no {α : Type} {p : α → Bool} {l : List α} (h : ∀ x, x ∈ l → p x = false) : l.any p = false := List.any_eq_false.2 fun x hx => by rw [h x hx]; simp
set_option maxRecDepth 100000 in
set_option maxHeartbeats 2000000 in
theorem deep_any : ∀ (m : Nat) (r : Re), m ≤ 1000000 → ∀ (F : Nat → Prop) (cs : Array Value) (w : World), (∀ g, F g → g < w.heap.size) → ReG F w r cs →
    Calls Tryz.prog 53 #[.agg cs, .int .i64 m] w fun e w' => e = .returned (.bool (deepB m r)) ∧ Below w.heap.size w w' := by
  intro m
  induction m with
  | zero =>
    intro r hm F cs w hFw h
    obtain ⟨k, x, s, ad, n, cap, mn, mx, rfl⟩ := h.cells
    have HB := hid ((Below.refl w.heap.size w).alloc (Nat.le_refl _) (.cells (reC k x s (.slice ad n cap) mn mx) 33))
    have HE := hid (show deepB 0 r = true from rfl)
    clear h
    go_enter Tryz.func53, Tryz.ntmps53
    go_wp2
    go_ret
    exact ⟨bool_eq HE.out.symm, HB.out⟩
  | succ m ih =>
    intro r hm F cs w hFw h
    obtain ⟨k, x, s, ps, mn, mx⟩ := r
    obtain ⟨ad, cap, rfl, hlen, hps⟩ := h.open
    have IH := hid ih
    have HPS := hid hps
    have HFW := hid hFw
    have HR := hid (show deepB (m + 1) (.mk k x s ps mn mx) = ps.any (deepB m) from rfl)
    clear h ih hps hFw
    unfold maxLen at hlen
    have hm0 : (((m + 1 : Nat) : Int) == 0) = false := by rw [beq_eq_false_iff_ne]; omega
    go_enter Tryz.func53, Tryz.ntmps53
    go_wp2
    have hb0 : Below w.heap.size w (w.alloc (.cells (reC k x s (.slice ad ps.length cap) mn mx) 33)) := ((Below.refl _ w).alloc (Nat.le_refl _) _)
    go_loopw [12] (fun v wr => ∃ i : Nat, i ≤ ps.length ∧ v = .int .i64 i ∧ Hid (∀ p, p ∈ ps.take i → deepB m p = false) ∧ Below (w.heap.size + 1) (w.alloc (.cells (reC k x s (.slice ad ps.length cap) mn mx) 33)) wr) (fun v _ => ps.length - (RowKit.intOf v).toNat)
    case atStart => exact ⟨0, Nat.zero_le _, rfl, by intro p hp; simp at hp, Below.refl _ _⟩
    case round =>
      obtain ⟨i, hi, rfl, HT, hb⟩ := hrel
      have hwr : Below w.heap.size w wr := hb0.trans (hb.mono (by omega))
      have hsz : w.heap.size + 1 ≤ wr.heap.size := by have := hb.size; simp at this; omega
      by_cases hlt : i < ps.length
      · obtain ⟨g, off, rfl, hgF, hparts⟩ := HPS.out (by rintro rfl; simp at hlt)
        obtain ⟨k1, x1, s1, ad1, n1, cap1, mn1, mx1, hr1, hc⟩ := hparts.at (List.getElem?_eq_getElem hlt)
        have hgl := HFW.out g hgF
        have low : ∀ (o : Nat) {v : Value}, w.cell? ⟨g, o, none⟩ = some v → wr.cell? ⟨g, o, none⟩ = some v := fun o v h => (hwr.cell (p := ⟨g, o, none⟩) hgl).trans h
        have a0 : wr.cell? ⟨g, off + i * 9, none⟩ = _ := low _ (hc 0 _ rfl)
        have a1 := low _ (hc 1 _ rfl)
        have a2 := low _ (hc 2 _ rfl)
        have a3 := low _ (hc 3 _ rfl)
        have a4 := low _ (hc 4 _ rfl)
        have a5 := low _ (hc 5 _ rfl)
        have a6 := low _ (hc 6 _ rfl)
        have a7 := low _ (hc 7 _ rfl)
        have a8 := low _ (hc 8 _ rfl)
        have hgi : (i : Int) < (ps.length : Int) := by omega
        have hwa : Below w.heap.size w (wr.alloc (.cells (reC k1 x1 s1 (.slice ad1 n1 cap1) mn1 mx1) 33)) := hwr.alloc (by omega) _
        have hcall := IH.out ps[i] (by omega) F _ (wr.alloc (.cells (reC k1 x1 s1 (.slice ad1 n1 cap1) mn1 mx1) 33)) (fun g hg => by have := HFW.out g hg; simp; omega) (hr1.below HFW.out hwa)
        have HS := hid (take_snoc hlt)
        have HM := hid (List.getElem_mem hlt)
        clear hparts hc low hr1 hwa
        by_cases hd : deepB m ps[i] = true
        · rw [hd] at hcall
          have HD := hid hd
          clear hd
          go_wp2_with (go_at_call 53; refine hcall.mono ?_; clear hcall; rintro e w3 ⟨rfl, hb3⟩)
          go_ret
          exact ⟨bool_eq (by rw [HR.out]; exact (List.any_eq_true.2 ⟨_, HM.out, HD.out⟩).symm), (hwr.alloc (by omega) _).trans (hb3.mono (by simp; omega))⟩
        · rw [Bool.not_eq_true] at hd
          rw [hd] at hcall
          have HD := hid hd
          clear hd
          go_wp2_with (go_at_call 53; refine hcall.mono ?_; clear hcall; rintro e w3 ⟨rfl, hb3⟩)
          go_roundw
          case rel =>
            repeat apply Exists.intro
            refine And.intro ?_ rfl
            exact ⟨i + 1, by omega, by go_num, hid (fun p hp => by
            rw [HS.out] at hp
            rcases List.mem_append.1 hp with hp | hp
            · exact HT.out p hp
            · rw [List.mem_singleton.1 hp]; exact HD.out), (hb.alloc (by omega) _).trans (hb3.mono (by simp; omega))⟩
          case measure => simp [RowKit.intOf]; omega
      · obtain rfl : i = ps.length := by omega
        go_wp2
        go_ret
        refine ⟨bool_eq ?_, hwr⟩
        rw [HR.out]
        exact (any_no fun p hp => HT.out p (by rw [List.take_length]; exact hp)).symm
end Go.Proofs.YtfljcfdfgojdoaaGreatDoor.Sh

namespace Go.Proofs.YtfljcfdfgojdoaaGreatDoor.Sh
open Go.RowKit Go.Lib Go.Proofs.YtfljcfdfgojdoaaGreatDoor

def nameOk (l : List B) : Bool := decide ((nextL 0 l).err = 0) && (decide ((nextL 0 l).tok.kind = 1) && (((nextL 0 l).tok.text == l) && !reservedB l))
set_option maxRecDepth 100000 in
set_option maxHeartbeats 1000000 in
theorem mayName_any (l : List B) (w : World) (hs : l.length ≤ 140737488351232) :
    Calls Tryz.prog 110 #[.string ⟨l.toArray⟩] w fun e w' => e = .returned (.bool (nameOk l)) ∧ Below w.heap.size w w' := by
  have hs' : (⟨l.toArray⟩ : ByteArray).size ≤ 140737488351232 := by simpa [ByteArray.size] using hs
  have HS := hid hs'
  have hn : nameOk l = (decide ((nextL 0 (sfx ⟨l.toArray⟩ 0)).err = 0) && (decide ((nextL 0 (sfx ⟨l.toArray⟩ 0)).tok.kind = 1) && (((nextL 0 (sfx ⟨l.toArray⟩ 0)).tok.text == l) && !reservedB l))) := rfl
  have HN := hid hn
  clear hs hs' hn
  generalize hx : nextL 0 (sfx ⟨l.toArray⟩ 0) = x at *
  have HX := hid hx
  clear hx
  obtain ⟨t, nx, er⟩ := x
  obtain ⟨tk, tt, ts, tn, tp⟩ := t
  simp only at HN
  go_enter Tryz.func110, Tryz.ntmps110
  go_wp2_with (first | (go_at_call 144; refine (next_at ⟨l.toArray⟩ _ 0 _ rfl (Nat.zero_le _) HS.out).mono ?_; rintro e w1 ⟨rfl, hb1⟩; rw [HX.out]; simp only [Nx.v, Tok.cells]) | (go_at_call 147; refine (reserved_any ⟨l.toArray⟩ _).mono ?_; rintro e w2 ⟨rfl, rfl⟩))
  all_goals
    go_ret
    refine ⟨bool_eq ?_, bbox hb1 _⟩
    rw [HN.out]
    simp [*]
def oftB (lo hi : Int) : Bool := if hi = -1 then decide (lo = 0) || decide (lo = 1) else decide (0 ≤ lo) && decide (lo ≤ hi) && decide (hi ≤ 64)
set_option maxRecDepth 100000 in
theorem mayOft_any (a b : Int) (w : World) :
    Calls Tryz.prog 111 #[.int .i64 a, .int .i64 b] w fun e w' => e = .returned (.bool (oftB a b)) ∧ w = w' := by
  by_cases h1 : b = -1
  · subst h1
    by_cases h2 : a = 0
    · subst h2
      go_enter Tryz.func111, Tryz.ntmps111
      go_wp2
      go_ret
      exact ⟨rfl, rfl⟩
    · by_cases h3 : a = 1
      · subst h3
        go_enter Tryz.func111, Tryz.ntmps111
        go_wp2
        go_ret
        exact ⟨rfl, rfl⟩
      · have HO := hid (show oftB a (-1) = false by unfold oftB; simp [h2, h3])
        have e2 : (a == 0) = false := by simpa using h2
        have e3 : (a == 1) = false := by simpa using h3
        go_enter Tryz.func111, Tryz.ntmps111
        go_wp2
        go_ret
        exact ⟨bool_eq HO.out.symm, rfl⟩
  · have hb : (b == -1) = false := by rw [beq_eq_false_iff_ne]; exact h1
    by_cases h2 : 0 ≤ a
    · by_cases h3 : a ≤ b
      · by_cases h4 : b ≤ 64
        · have HO := hid (show oftB a b = true by unfold oftB; simp [h1, h2, h3, h4])
          clear h1
          go_enter Tryz.func111, Tryz.ntmps111
          go_wp2
          go_ret
          exact ⟨bool_eq HO.out.symm, rfl⟩
        · have HO := hid (show oftB a b = false by unfold oftB; simp [h1, h4])
          clear h1
          go_enter Tryz.func111, Tryz.ntmps111
          go_wp2
          go_ret
          exact ⟨bool_eq HO.out.symm, rfl⟩
      · have HO := hid (show oftB a b = false by unfold oftB; simp [h1, h3])
        clear h1
        go_enter Tryz.func111, Tryz.ntmps111
        go_wp2
        go_ret
        exact ⟨bool_eq HO.out.symm, rfl⟩
    · have HO := hid (show oftB a b = false by unfold oftB; simp [h1, h2])
      clear h1
      go_enter Tryz.func111, Tryz.ntmps111
      go_wp2
      go_ret
      exact ⟨bool_eq HO.out.symm, rfl⟩
end Go.Proofs.YtfljcfdfgojdoaaGreatDoor.Sh

namespace Go.Proofs.YtfljcfdfgojdoaaGreatDoor.Sh
open Go.RowKit Go.Lib Go.Proofs.YtfljcfdfgojdoaaGreatDoor

def noneB (s : Se) : Bool := s.a == 0 && s.b == 0 && s.c == 0 && s.d == 0
/-- may this stand in one expression, its parts aside? -/
def nodeB (k : Int) (x : List B) (s : Se) (n : Nat) (mn mx : Int) : Bool :=
  if k = 1 then decide (x.length ≤ 256) && (noneB s && (decide (n = 0) && (decide (mn = 0) && decide (mx = 0))))
  else if k = 2 then decide (x = []) && (decide (n = 0) && (decide (mn = 0) && decide (mx = 0)))
  else if k = 3 then nameOk x && (noneB s && (decide (n = 0) && (decide (mn = 0) && decide (mx = 0))))
  else if k = 4 ∨ k = 5 ∨ k = 6 then decide (2 ≤ n) && (decide (x = []) && (noneB s && (decide (mn = 0) && decide (mx = 0))))
  else if k = 7 then decide (n = 1) && (decide (x = []) && (noneB s && (decide (mn = 0) && decide (mx = 0))))
  else if k = 8 then decide (n = 1) && (oftB mn mx && (decide (x = []) && noneB s))
  else false
def rightB : Nat → Re → Bool
  | 0, _ => false
  | n + 1, .mk k x s ps mn mx => nodeB k x s ps.length mn mx && ps.all (rightB n)
theorem rightB_succ (n : Nat) (k : Int) (x : List B) (s : Se) (ps : List Re) (mn mx : Int) : rightB (n + 1) (.mk k x s ps mn mx) = (nodeB k x s ps.length mn mx && ps.all (rightB n)) := rfl
theorem str_none {x : List B} (h : x ≠ []) : ¬ x = [] ∧ ¬ (⟨x.toArray⟩ : ByteArray) = ⟨#[]⟩ := by
  have : ¬ (⟨x.toArray⟩ : ByteArray) = ⟨#[]⟩ := fun e => h (by
    have := congrArg (fun b : ByteArray => b.data.toList) e
    simpa using this)
  exact ⟨h, this⟩
theorem noneB_eq {s : Se} (h : noneB s = true) : s = Se.none := by
  obtain ⟨a, b, c, d⟩ := s
  unfold noneB at h
  simp only [Bool.and_eq_true, beq_iff_eq] at h
  obtain ⟨⟨⟨h1, h2⟩, h3⟩, h4⟩ := h
  rw [h1, h2, h3, h4]; rfl
/-- right at an expression, in a world -/
def RightAt (n : Nat) (r : Re) : Prop := ∀ (F : Nat → Prop) (cs : Array Value) (w : World), (∀ g, F g → g < w.heap.size) → ReG F w r cs → Calls Tryz.prog 54 #[.agg cs] w fun e w' => e = .returned (.bool (rightB n r)) ∧ Below w.heap.size w w'

end Go.Proofs.YtfljcfdfgojdoaaGreatDoor.Sh
