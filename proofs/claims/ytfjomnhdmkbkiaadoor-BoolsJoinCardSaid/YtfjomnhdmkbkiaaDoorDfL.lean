/-
  The table of rows (package intern): its memory, and the contracts of find, add, New, Put, Size, Row.
-/
import Derived.Test.YtfjomnhdmkbkiaaDoorDfK
import Derived.Test.YtfjomnhdmkbkiaaDoorDfF
namespace Go.Proofs.YtfjomnhdmkbkiaaDoor.Im
open Go.RowKit Go.Lib Go.Maps

/-- from w to w' no old block but those of S has turned -/
structure Turn (S : Nat → Prop) (w w' : World) : Prop where
  os : w'.os = w.os
  tape : w'.tape = w.tape
  output : w'.output = w.output
  size : w.heap.size ≤ w'.heap.size
  block : ∀ g, g < w.heap.size → ¬ S g → w'.heap[g]? = w.heap[g]?
theorem Turn.refl (S : Nat → Prop) (w : World) : Turn S w w := ⟨rfl, rfl, rfl, Nat.le_refl _, fun _ _ _ => rfl⟩
theorem Turn.trans {S : Nat → Prop} {a b c : World} (h : Turn S a b) (k : Turn S b c) : Turn S a c :=
  ⟨k.os.trans h.os, k.tape.trans h.tape, k.output.trans h.output, Nat.le_trans h.size k.size, fun g hg hs => (k.block g (Nat.lt_of_lt_of_le hg h.size) hs).trans (h.block g hg hs)⟩
/-- .. where what the second step turns is old of S or new -/
theorem Turn.then {S S' : Nat → Prop} {a b c : World} (h : Turn S a b) (k : Turn S' b c) (hs : ∀ g, S' g → S g ∨ a.heap.size ≤ g) : Turn S a c :=
  ⟨k.os.trans h.os, k.tape.trans h.tape, k.output.trans h.output, Nat.le_trans h.size k.size, fun g hg hn => (k.block g (Nat.lt_of_lt_of_le hg h.size) (fun h' => (hs g h').elim hn (fun h'' => by omega))).trans (h.block g hg hn)⟩
theorem Turn.mono {S S' : Nat → Prop} {a b : World} (h : Turn S a b) (hs : ∀ g, S g → S' g) : Turn S' a b :=
  ⟨h.os, h.tape, h.output, h.size, fun g hg hn => h.block g hg fun h' => hn (hs g h')⟩
theorem Turn.of_below {S : Nat → Prop} {w w' : World} (h : Below w.heap.size w w') : Turn S w w' := ⟨h.os, h.tape, h.output, h.size, fun g hg _ => h.block g hg⟩
theorem Turn.below {S : Nat → Prop} {B : Nat} {w w' : World} (h : Turn S w w') (hB : B ≤ w.heap.size) (hs : ∀ g, S g → B ≤ g) : Below B w w' :=
  ⟨h.os, h.tape, h.output, h.size, fun g hg => h.block g (by omega) fun h' => by have := hs g h'; omega⟩
theorem Turn.alloc {S : Nat → Prop} {w w' : World} (h : Turn S w w') (o : Obj) : Turn S w (w'.alloc o) := h.trans (Turn.of_below ((Below.refl _ _).alloc (Nat.le_refl _) _))
theorem Turn.setCell {S : Nat → Prop} {w w' : World} (h : Turn S w w') {p : Addr} (hp : S p.block) (v : Value) : Turn S w (w'.setCell p v) :=
  h.trans ⟨rfl, rfl, rfl, by rw [World.size_setCell]; exact Nat.le_refl _, fun g hg hn => heap_setCell_other _ _ _ _ (fun e => hn (by rw [e]; exact hp))⟩
theorem Turn.grown {S : Nat → Prop} {w w' w'' : World} {row : Option Nat} (h : Turn S w w') (hg : w'.grownBy w'' row) (hr : ∀ g, row = some g → S g) : Turn S w w'' :=
  h.trans ⟨hg.os, hg.tape, hg.output, hg.size, fun g hl hn => hg.block g hl fun e => hn (hr g e.symm)⟩
theorem Turn.grown' {S : Nat → Prop} {w w' w'' : World} {row : Option Nat} (h : Turn S w w') (hg : w'.grownBy w'' row) (hr : ∀ g, row = some g → S g ∨ w.heap.size ≤ g) : Turn S w w'' :=
  h.then (S' := fun g => row = some g) ⟨hg.os, hg.tape, hg.output, hg.size, fun g hl hn => hg.block g hl fun e => hn e.symm⟩ hr
theorem Turn.turned {S : Nat → Prop} {w w' w'' : World} {b : Nat} (h : Turn S w w') (ht : w'.mapTurned w'' b) (hb : S b) : Turn S w w'' := h.grown ht.grown fun g e => by cases e; exact hb

theorem lt_alloc' (w : World) (o : Obj) : w.heap.size < (w.alloc o).heap.size := by rw [World.size_alloc]; omega
abbrev TabCells (w : World) (T M : Nat) (rv : Value) : Prop := w.heap[T]? = some (.cells #[rv, .map (some M)] 110 (0, 0))
def FindPost (w : World) (ks : List (List B)) (k : List B) (e : Ending) (w' : World) : Prop := e = .returned (.tuple #[.int .i64 (idxK ks k), .bool (hasK ks k)]) ∧ w' = w
set_option maxRecDepth 100000 in
set_option maxHeartbeats 2000000 in
theorem find_any {w : World} {T M : Nat} {rv : Value} {ks : List (List B)} (hT : TabCells w T M rv) (hk : KeysIn w M ks) (k : List B) (hkl : k.length ≤ maxLen) :
    Calls Tryd.prog 77 #[.pointer (some ⟨T, 0, none⟩), txtV k] w (FindPost w ks k) := by
  have c1 : w.cell? ⟨T, 1, none⟩ = some (.map (some M)) := cell_blk hT rfl
  have HK := hid hk
  have HKL := hid hkl
  clear hk hkl hT
  go_enter Tryd.func77, Tryd.ntmps77
  go_wp2_with (at_lookup; refine wpList_place_any _ rfl _ _ 100 rfl 9 3 strKey Tryd.underlying100 Tryd.underlying3 (mapPlaces _) txtV M ks rfl HK.out k _ rfl (keyTxt HKL.out) ?_)
  go_ret2
  exact ⟨rfl, rfl⟩
/-- the blocks of a table that a Put may turn -/
def TabS (T M : Nat) (rv : Value) (g : Nat) : Prop := g = T ∨ g = M ∨ rv.ownBlock = some g
theorem tab_kept {w w2 : World} {T M : Nat} {rv : Value} {o : Obj} {row : Option Nat} (h : TabCells w T M rv) (hg : (w.alloc o).grownBy w2 row) (hr : ∀ g, row = some g → T ≠ g) : TabCells w2 T M rv :=
  (hg.block T (Nat.lt_trans (lt_of_heap h) (lt_alloc' w o)) (fun e => hr T e.symm rfl)).trans ((alloc_old (lt_of_heap h)).trans h)
theorem keys_kept {w w2 : World} {M base e n : Nat} {ks : List (List B)} {v : Value} {xs : List Value} {o : Obj} (h : KeysIn w M ks) (hg : (w.alloc o).grownBy w2 v.ownBlock) (ho : w.ownsRow base e 1 v n xs) : KeysIn w2 M ks :=
  h.block ((hg.block M (Nat.lt_trans h.lt (lt_alloc' w o)) (fun e => by
    obtain ⟨cur, hc⟩ := own_tag ho e.symm
    exact h.notRow hc rfl)).trans (alloc_old h.lt))
theorem two_set0' {w : World} {P : Nat} {a b : Value} {T : TypeId} (v : Value) (h : w.heap[P]? = some (.cells #[a, b] T (0, 0))) : (w.setCell ⟨P, 0, none⟩ v).heap[P]? = some (.cells #[v, b] T (0, 0)) := by rw [heap_setCell_same _ _ _ _ _ _ h]; rfl
theorem keys_set {w : World} {M T i : Nat} {ks : List (List B)} {v : Value} (h : KeysIn w M ks) (hne : M ≠ T) : KeysIn (w.setCell ⟨T, i, none⟩ v) M ks := h.block (heap_setCell_other _ _ _ _ hne)
def AddPost (w : World) (base T M : Nat) (rv : Value) (vs : List Value) (ks : List (List B)) (k : List B) (v : Value) (e : Ending) (w' : World) : Prop :=
  ∃ rv', e = .returned (.int .i64 (vs.length : Int)) ∧ TabCells w' T M rv' ∧ w'.ownsRow base 22 1 rv' (vs.length + 1) (vs ++ [v]) ∧ KeysIn w' M (ks ++ [k]) ∧ (rv'.ownBlock = rv.ownBlock ∨ ∃ g, rv'.ownBlock = some g ∧ w.heap.size ≤ g) ∧ Turn (TabS T M rv) w w'
set_option maxRecDepth 100000 in
set_option maxHeartbeats 2000000 in
theorem add_any {w : World} {base T M : Nat} {rv : Value} {vs : List Value} {ks : List (List B)} (hT : TabCells w T M rv) (ho : w.ownsRow base 22 1 rv vs.length vs) (hk : KeysIn w M ks) (hlen : ks.length = vs.length) (hn : vs.length ≤ 4096) (hb : base ≤ w.heap.size)
    (k : List B) (hkl : k.length ≤ maxLen) (hkn : k ∉ ks) {v : Value} (hv : ∃ a n c, v = .slice a n c) :
    Calls Tryd.prog 78 #[.pointer (some ⟨T, 0, none⟩), txtV k, v] w (AddPost w base T M rv vs ks k v) := by
  have c0 : w.cell? ⟨T, 0, none⟩ = some rv := cell_blk hT rfl
  have c1 : w.cell? ⟨T, 1, none⟩ = some (.map (some M)) := cell_blk hT rfl
  have f0 : w.frozen? ⟨T, 0, none⟩ = false := free_box hT
  have hTl := lt_of_heap hT
  have hMl := hk.lt
  have HT := hid hT
  have HO := hid ho
  have HK := hid hk
  have HKL := hid hkl
  have HKN := hid hkn
  have HLN := hid hlen
  have HTM := hid (fun e : M = T => hk.notRow hT e.symm)
  obtain ⟨i0, hi, hz0, hz1, hz2⟩ := info_parts infoR
  have HI := hid hi
  have HZ := hid (And.intro hz0 (And.intro hz1 hz2))
  obtain ⟨adr, cpr, rfl⟩ := own_shape ho
  obtain ⟨av, nv, cv, rfl⟩ := hv
  have hTr : ∀ g, (Value.slice adr vs.length cpr).ownBlock = some g → T ≠ g := fun g hg e => by
    obtain ⟨cur, hc⟩ := own_tag HO.out hg
    rw [← e, HT.out] at hc
    cases hc
  have HTR := hid hTr
  clear hT ho hk hkl hkn hlen hi hz0 hz1 hz2 hTr
  go_enter Tryd.func78, Tryd.ntmps78
  go_wp2_with (first | (at_builtin; refine wpList_append_own_at _ rfl _ _ 27 rfl base 22 i0 (.slice none 0 0) 1 24 Tryd.underlying27 HI.out HZ.out.1 HZ.out.2.1 HZ.out.2.2 rfl (by decide) _ _ _ rfl (HO.out.alloc _) ⟨w.heap.size, 0, none⟩ 1 1 [.slice av nv cv] rfl rfl (cell_one_new _ _ _) (one_cell_one rfl) (by unfold maxLen; omega) (by omega) (by simp; omega) ?_; intro rv' w2 ho2 hg2 _ hat2; obtain ⟨adr2, cpr2, rfl⟩ := own_shape ho2; have HO2 := hid ho2; have HG2 := hid (show World.grownBy (w.alloc (.cells #[.slice av nv cv] 22)) w2 (Value.slice adr vs.length cpr).ownBlock from hg2); have HAT := hid (show (Value.slice adr2 (vs.length + 1) cpr2).ownBlock = (Value.slice adr vs.length cpr).ownBlock ∨ (Value.slice adr2 (vs.length + 1) cpr2).ownBlock = some (w.alloc (.cells #[.slice av nv cv] 22)).heap.size from hat2); have HT2 := hid (tab_kept HT.out HG2.out HTR.out); have HK2 := hid (keys_kept HK.out HG2.out HO.out); have e1 := cell_blk HT2.out (i := 1) rfl; have g0 := free_box (i := 0) HT2.out; have e0 := cell_blk HT2.out (i := 0) rfl; clear ho2 hg2 hat2) | (at_mapUpdate; refine wpList_place_put _ rfl _ _ _ 100 rfl 9 3 strKey Tryd.underlying100 Tryd.underlying3 txtV txtV_inj M ks rfl (keys_set HK2.out HTM.out) (by rw [HLN.out]; unfold maxLen; omega) k _ rfl (by rw [HLN.out]; rfl) (keyTxt HKL.out) HKN.out ?_; intro w3 hk3 ht3; have HK3 := hid hk3; have HTT := hid ht3; clear hk3 ht3))
  go_ret
  have hT3 := two_set0' (.slice adr2 (vs.length + 1) cpr2) HT2.out
  have ho3 : (w2.setCell ⟨T, 0, none⟩ (.slice adr2 (vs.length + 1) cpr2)).ownsRow base 22 1 (.slice adr2 (vs.length + 1) cpr2) (vs.length + 1) (vs ++ [.slice av nv cv]) := own_set HO2.out HT2.out (by decide)
  refine ⟨_, rfl, (turned_blk HTT.out (fun e => HTM.out e.symm) (lt_of_heap hT3)).trans hT3, own_turned ho3 HTT.out, HK3.out, HAT.out.imp id (fun h => ⟨_, h, Nat.le_of_lt (lt_alloc' w _)⟩), ?_⟩
  refine Turn.turned (Turn.setCell (Turn.grown ((Turn.refl _ w).alloc _) HG2.out (fun g h => .inr (.inr h))) (.inl rfl) _) HTT.out (.inr (.inl rfl))
end Go.Proofs.YtfjomnhdmkbkiaaDoor.Im
