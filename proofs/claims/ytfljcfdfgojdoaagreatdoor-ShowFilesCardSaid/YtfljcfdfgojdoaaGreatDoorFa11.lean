/-
  set.runs, set.Rows: the contracts.
  set.Rows: the contract.
-/
import Derived.Test.YtfljcfdfgojdoaaGreatDoorFa10
import Derived.RangeFuncNested
import Derived.RangeFuncBound
import Derived.RangeFuncCalls
import Derived.RangeFuncLeaves
import Derived.Shelf.Abstract
import Derived.Shelf.RegionOpen
import Derived.OwnWalkIn
import Derived.TacticsInMore
import Derived.LoopNIn
import Derived.LoopIn
namespace Go.Proofs.YtfljcfdfgojdoaaGreatDoor.Sh
open Go.RowKit Go.Lib Go.Shelf Go.Proofs.YtfljcfdfgojdoaaGreatDoor
attribute [local go_sem] Oper.semAt_some

set_option maxRecDepth 100000 in
theorem runs_any (s : Se) (w : World) :
    Calls Tryz.prog 199 #[s.v] w fun e w' => e = .returned (.func (.func 223) #[] #[.pointer (some ⟨w.heap.size, 0, none⟩)]) ∧ w' = w.alloc (.cells s.cs 30) := by
  obtain ⟨a, b, c, d⟩ := s
  go_enter Tryz.func199, Tryz.ntmps199
  go_wp2
  go_ret
  exact ⟨rfl, rfl⟩
abbrev encR (r : Nat × Nat) : Array Value := #[.agg #[.int .u8 r.1, .int .u8 r.2]]
theorem grown_none {w w' : World} (h : Below w.heap.size w w') : w.grownBy w' none := ⟨h.os, h.tape, h.output, h.size, fun k hk _ => h.block k hk⟩
/-- the block of the set is kept -/
def Kq (Bs : Nat) (W W' : World) : Prop := W.heap.size ≤ W'.heap.size ∧ W'.heap[Bs]? = W.heap[Bs]?
theorem Kq.refl (Bs : Nat) (W : World) : Kq Bs W W := ⟨Nat.le_refl _, rfl⟩
theorem Kq.trans {Bs : Nat} {A B C : World} (h : Kq Bs A B) (k : Kq Bs B C) : Kq Bs A C := ⟨Nat.le_trans h.1 k.1, k.2.trans h.2⟩
theorem Kq.below {Bs : Nat} {W w1 w2 : World} (h : Kq Bs W w1) (k : Below w1.heap.size w1 w2) (hl : Bs < W.heap.size) : Kq Bs W w2 := h.trans ⟨k.size, k.block Bs (Nat.lt_of_lt_of_le hl h.1)⟩
/-- at the head of the outer loop: the byte ahead is none, or no byte is -/
def HeadP (p : Nat → Bool) (c : Nat) : Prop := c = 0 ∨ p (c - 1) = false ∨ p c = false ∨ 256 ≤ c
theorem HeadP.start {p : Nat → Bool} {c : Nat} (h : HeadP p c) (hc : c < 256) (hp : p c = true) : startP p c = c := by
  rcases h with h | h | h | h
  · exact startP_new (.inl h)
  · exact startP_new (.inr h)
  · rw [hp] at h; cases h
  · omega
theorem rows_pre (p : Nat → Bool) (c : Nat) (h : c ≤ 256) : rowsTo p c <+: rowsTo p 256 := by
  obtain ⟨d, hd⟩ : ∃ d, c + d = 256 := ⟨256 - c, by omega⟩
  rw [← hd]
  clear hd h
  induction d with
  | zero => exact List.prefix_rfl
  | succ d ih => rw [← Nat.add_assoc, rowsTo_succ]; exact ih.trans (List.prefix_append _ _)
set_option maxRecDepth 100000 in
set_option maxHeartbeats 2000000 in
theorem runs1_in (n : Nat) (hn : 1 ≤ n) (l Bs : Nat) (s : Se) (J Jx : List (Nat × Nat) → World → Prop)
    (hY : ∀ pre x W, J pre W → pre.length < 256 → YieldAt Fence.wide (n - 1) Tryz.prog l (encR x) W fun e W' =>
      (e = .returned (.bool true) ∧ J (pre ++ [x]) W' ∧ Kq Bs W W') ∨ (e = .returned (.bool false) ∧ Jx (pre ++ [x]) W'))
    (hJ : ∀ pre W W', J pre W → Below W.heap.size W W' → J pre W')
    (W : World) (hBs : W.heap[Bs]? = some (.cells s.cs 30 (0, 0))) (h0 : J [] W) :
    CallsIn Fence.wide n Tryz.prog 223 #[.func (.yield l) #[] #[], .pointer (some ⟨Bs, 0, none⟩)] W fun e W' => (∃ v, e = .returned v) ∧
      (J (rowsTo (hasS s) 256) W' ∨ ∃ pre, pre <+: rowsTo (hasS s) 256 ∧ Jx pre W') := by
  refine callsIn_of_wp Tryz.func223 rfl trivial ?_ rfl
  simp only [Tryz.ntmps223, List.size_toArray, List.length_cons, List.length_nil, Nat.reduceAdd, Nat.reduceSub, Array.replicate_succ, Array.replicate_zero, List.push_toArray, List.append_toArray, List.nil_append, List.cons_append]
  gi_wp2
  gi_loopw [3] (fun i wr => ∃ c : Nat, c ≤ 256 ∧ i = .int .i64 c ∧ HeadP (hasS s) c ∧ J (rowsTo (hasS s) c) wr ∧ Kq Bs W wr)
    (fun i _ => 256 - (RowKit.intOf i).toNat)
  case atStart => exact ⟨0, Nat.zero_le _, rfl, .inl rfl, h0, Kq.refl _ _⟩
  case round =>
    obtain ⟨c, hc, rfl, hhd, hJs, hb⟩ := hrel
    have hblk := hb.2.trans hBs
    by_cases hlt : c < 256
    · have c0 := cell_blk (i := 0) hblk rfl
      have c1 := cell_blk (i := 1) hblk rfl
      have c2 := cell_blk (i := 2) hblk rfl
      have c3 := cell_blk (i := 3) hblk rfl
      have HBK := hid hblk
      have HB := hid hb
      have HJ := hid hJs
      have HH := hid hhd
      clear hblk hb hJs hhd
      have hh := has_any s c hlt wr
      have HNL := hid (show hasS s c = false → lastP (hasS s) c = false from fun h => by unfold lastP; rw [h]; rfl)
      have HPP := hid (fun (x : Bool) (h : x = hasS s c) => h)
      generalize hp : hasS s c = pc at hh
      have HP := hid hp
      clear hp
      cases pc with
      | false =>
        gi_wp2_with (refine ⟨trivial, ?_⟩; gi_at_call 224; refine (callsIn_wide.2 hh).mono ?_; clear hh; rintro e w1 ⟨rfl, hb1⟩)
        go_roundw
        case rel => exact ⟨c + 1, by omega, by go_num, .inr (.inl HP.out), by rw [rowsTo_no (HNL.out HP.out)]; exact hJ _ _ _ HJ.out hb1, HB.out.below hb1 (lt_of_heap hBs)⟩
        case measure => simp [RowKit.intOf]; omega
      | true =>
        gi_wp2_with (refine ⟨trivial, ?_⟩; gi_at_call 224; refine (callsIn_wide.2 hh).mono ?_; clear hh; rintro e w1 ⟨rfl, hb1⟩)
        have HJ1 := hid (hJ _ _ _ HJ.out hb1)
        have HB1 := hid (HB.out.below hb1 (lt_of_heap hBs))
        have HST := hid (HH.out.start hlt HP.out)
        clear HJ HB HNL HPP HBK hb1
        gi_loopw [3] (fun i wr => ∃ e : Nat, c ≤ e ∧ e ≤ 255 ∧ i = .int .i64 e ∧ Hid (hasS s e = true ∧ startP (hasS s) e = c ∧ rowsTo (hasS s) e = rowsTo (hasS s) c) ∧ Hid (J (rowsTo (hasS s) c) wr) ∧ Kq Bs W wr) (fun i _ => 255 - (RowKit.intOf i).toNat)
        case atStart => exact ⟨c, Nat.le_refl _, by omega, rfl, hid ⟨HP.out, HST.out, rfl⟩, HJ1, HB1.out⟩
        case round =>
          obtain ⟨e, hce, he, rfl, HE, HJ2, hb⟩ := hrel
          have hblk := hb.2.trans hBs
          have c0 := cell_blk (i := 0) hblk rfl
          have c1 := cell_blk (i := 1) hblk rfl
          have c2 := cell_blk (i := 2) hblk rfl
          have c3 := cell_blk (i := 3) hblk rfl
          have HB2 := hid hb
          clear hb hblk
          by_cases hl5 : e < 255
          · have hh := has_any s (e + 1) (by omega) wr
            generalize hp : hasS s (e + 1) = pc at hh
            have HP2 := hid hp
            clear hp
            cases pc with
            | true =>
              have HNO := hid (rowsTo_no (p := hasS s) (c := e) (by unfold lastP; rw [HP2.out]; simp [hl5]))
              gi_wp2_with (refine ⟨trivial, ?_⟩; gi_at_call 224; refine (callsIn_wide.2 hh).mono ?_; clear hh; rintro e2 w2 ⟨rfl, hb2⟩)
              go_roundw
              case rel => exact ⟨e + 1, by omega, by omega, by go_num, hid ⟨HP2.out, by rw [startP_on HE.out.1]; exact HE.out.2.1, HNO.out.trans HE.out.2.2⟩, hid (hJ _ _ _ HJ2.out hb2), HB2.out.below hb2 (lt_of_heap hBs)⟩
              case measure => simp [RowKit.intOf]; omega
            | false =>
              have HLAST := hid (show lastP (hasS s) e = true by unfold lastP; rw [HE.out.1, HP2.out]; simp)
              have HNEXT := hid (show HeadP (hasS s) (e + 1) from .inr (.inr (.inl HP2.out)))
              have HRW := hid (show rowsTo (hasS s) (e + 1) = rowsTo (hasS s) c ++ [(c, e)] by rw [rowsTo_yes HLAST.out, HE.out.2.2, HE.out.2.1])
              gi_wp2_with (refine ⟨trivial, ?_⟩; gi_at_call 224; refine (callsIn_wide.2 hh).mono ?_; clear hh; rintro e2 w2 ⟨rfl, hb2⟩; obtain ⟨fn, tmps, assign, body, hy, hR⟩ := hY (rowsTo (hasS s) c) (c, e) w2 (hJ _ _ _ HJ2.out hb2) (by have := rowsTo_len (hasS s) c; omega); dsimp only [encR] at hy)
              refine hR.mono ?_
              rintro e3 W3 (⟨rfl, hJ3, hk3⟩ | ⟨rfl, hJx3⟩)
              · gi_wp2
                go_roundw
                case rel => exact ⟨e + 1, by omega, by go_num, HNEXT.out, by rw [HRW.out]; exact hJ3, (HB2.out.below hb2 (lt_of_heap hBs)).trans hk3⟩
                case measure => simp [RowKit.intOf]; omega
              · gi_wp2
                refine bodyPost_ret (results_none rfl _ _ _) rfl ?_
                exact ⟨⟨_, rfl⟩, .inr ⟨_, rows_pre _ (e + 1) (by omega), by rw [HRW.out]; exact hJx3⟩⟩
          · obtain rfl : e = 255 := by omega
            have HLAST := hid (show lastP (hasS s) 255 = true by unfold lastP; rw [HE.out.1]; rfl)
            have HNEXT := hid (show HeadP (hasS s) (255 + 1) from .inr (.inr (.inr (by decide))))
            have HRW := hid (show rowsTo (hasS s) (255 + 1) = rowsTo (hasS s) c ++ [(c, 255)] by rw [rowsTo_yes HLAST.out, HE.out.2.2, HE.out.2.1])
            obtain ⟨fn, tmps, assign, body, hy, hR⟩ := hY (rowsTo (hasS s) c) (c, 255) wr HJ2.out (by have := rowsTo_len (hasS s) c; omega)
            dsimp only [encR] at hy
            rw [show ((255 : Nat) : Int) = 255 from rfl] at hy
            gi_wp2
            refine ⟨trivial, ?_⟩
            gi_wp2
            refine hR.mono ?_
            rintro e3 W3 (⟨rfl, hJ3, hk3⟩ | ⟨rfl, hJx3⟩)
            · gi_wp2
              go_roundw
              case rel => exact ⟨255 + 1, by omega, by go_num, HNEXT.out, by rw [HRW.out]; exact hJ3, (HB2.out).trans hk3⟩
              case measure => simp [RowKit.intOf]; omega
            · gi_wp2
              refine bodyPost_ret (results_none rfl _ _ _) rfl ?_
              exact ⟨⟨_, rfl⟩, .inr ⟨_, rows_pre _ (255 + 1) (by omega), by rw [HRW.out]; exact hJx3⟩⟩
    · obtain rfl : c = 256 := by omega
      gi_wp2
      go_end0
      exact ⟨⟨_, rfl⟩, .inl hJs⟩
theorem runs_stops {n : Nat} (hn : 1 ≤ n) {Bs : Nat} {s : Se} {w : World} (hBs : w.heap[Bs]? = some (.cells s.cs 30 (0, 0))) :
    SeqStopsK Fence.wide n Tryz.prog 223 #[.pointer (some ⟨Bs, 0, none⟩)] encR (Kq Bs) (fun ys => ys = rowsTo (hasS s) 256) (fun pre => pre <+: rowsTo (hasS s) 256) 256 w := fun l J Jx W hW hJ _ hY h0 => by
  have hB' := (hW.block Bs (lt_of_heap hBs)).trans hBs
  refine (runs1_in n hn l Bs s J Jx hY (fun pre W W' h hb => hJ pre W W' none h (grown_none hb) (fun r e => by cases e)) W hB' h0).mono ?_
  rintro e W' ⟨he, hj | ⟨pre, hp, hj⟩⟩
  · exact ⟨he, .inl ⟨_, rfl, hj⟩⟩
  · exact ⟨he, .inr ⟨pre, hp, hj⟩⟩
end Go.Proofs.YtfljcfdfgojdoaaGreatDoor.Sh

namespace Go.Proofs.YtfljcfdfgojdoaaGreatDoor.Sh
open Go.RowKit Go.Lib Go.Shelf Go.Proofs.YtfljcfdfgojdoaaGreatDoor
attribute [local go_sem] Oper.semAt_some

/-- what a body must come to that holds a range over a function, and does not panic -/
def postM (P : Program) (fn : Func) (R : Ending → World → Prop) : Exit → Act → World → Prop
  | .normal, a, w => LeavesInM Fence.wide 5 P fn a.tmps R a.defers .returning w
  | .ret, a, w => LeavesInM Fence.wide 5 P fn a.tmps R a.defers .returning w
  | .outgrown, _, w => R .outgrown w
  | .panic _, _, _ => False
  | .exit _, _, _ => False
  | .goto _, _, _ => False
/-- a call's contract from its body, where the body holds a range over a function -/
theorem calls_marks {P : Program} {f : FuncId} {fn : Func} {c : Code} {args : Array Value} {w : World} {R : Ending → World → Prop} (hf : P.funcs[f]? = some fn) (hb : fn.body = some c)
    (h : c.wp P (postM P fn R) { tmps := args ++ Array.replicate (fn.ntmps - args.size) undef, defers := [] } w) : Calls P f args w R :=
  callsIn_wide.1 (callsIn_of_wp_marks (F := Fence.wide) (n := 5) hf hb trivial (wpIn_wide.2 (wp_mono h fun e a w q => by
    cases e <;> first | exact q | exact q.elim)) rfl)
def flatR (l : List (Nat × Nat)) : List Value := l.flatMap fun r => [.int .u8 r.1, .int .u8 r.2]
theorem flatR_snoc (l : List (Nat × Nat)) (r : Nat × Nat) : flatR (l ++ [r]) = flatR l ++ [.int .u8 r.1, .int .u8 r.2] := by simp [flatR]
theorem newAt {w : World} {o o' : Obj} : ((w.alloc o).alloc o').heap[w.heap.size + 1]? = some o' := by
  have h := heap_alloc_new (w.alloc o) o'
  rw [World.size_alloc] at h
  exact h
/-- between two rounds: what has come lies in the variable -/
def RI (w WR : World) (pre : List (Nat × Nat)) (W : World) : Prop :=
  Below w.heap.size w W ∧ WR.heap.size ≤ W.heap.size ∧ ∃ v, W.heap[w.heap.size + 1]? = some (.cells #[v] 193 (0, 0)) ∧ W.ownsRow WR.heap.size 195 2 v pre.length (flatR pre)
theorem RI.own {w WR : World} (hz : w.heap.size + 3 ≤ WR.heap.size) : OwnFrom WR.heap.size (RI w WR) := by
  rintro pre W W' row ⟨hb, hs, v, hv, ho⟩ hg hr
  have hlt := lt_of_heap hv
  refine ⟨⟨hg.os.trans hb.os, hg.tape.trans hb.tape, hg.output.trans hb.output, Nat.le_trans hb.size hg.size, fun k hk => ?_⟩, Nat.le_trans hs hg.size, v, ?_, ownsRow_same ho fun k cur hk _ => ?_⟩
  · exact (hg.block k (by omega) (fun e => by have := (hr k e.symm).1; omega)).trans (hb.block k hk)
  · exact (hg.block _ hlt (fun e => by have := (hr _ e.symm).1; omega)).trans hv
  · exact hg.block k (lt_of_heap hk) (fun e => by
      obtain ⟨_, o, h1, h2⟩ := hr k e.symm
      rw [hk] at h1; cases h1; cases h2)
theorem own_cells {w : World} {base e size n j : Nat} {v : Value} {xs : List Value} {o : Obj} (h : w.ownsRow base e size v n xs) (hj : v.ownBlock = some j) (ho : w.heap[j]? = some o) : o.isCells = true := by
  rcases h.2 with ⟨rfl, _⟩ | ⟨g, cap, cur, rfl, _, h3, _⟩
  · cases hj
  · have e2 : g = j := Option.some.inj hj
    subst e2
    rw [h3] at ho; cases ho; rfl
theorem own_low {w : World} {base base' e size n : Nat} {v : Value} {xs : List Value} (h : w.ownsRow base e size v n xs) (hb : base' ≤ base) : w.ownsRow base' e size v n xs :=
  ⟨h.1, h.2.imp_right fun ⟨g, cap, cur, h1, h2, h3⟩ => ⟨g, cap, cur, h1, Nat.le_trans hb h2, h3⟩⟩
theorem infoR2 : (Tryz.prog.info? 195).map (fun i => (i.zero, i.size, i.bytes)) = some (some (.agg #[.int .u8 0, .int .u8 0]), 2, 2) := by kernel_rfl
theorem two_at {w : World} {P : Nat} {x y : Value} {T : TypeId} (h : w.heap[P]? = some (.cells #[x, y] T (0, 0))) : ∀ j u, [x, y][j]? = some u → w.cell? ((⟨P, 0, none⟩ : Addr).add j) = some u := fun j u hu => by
  rw [Addr.add_lit, Nat.zero_add]
  exact cell_blk h (by simpa using hu)
set_option maxRecDepth 100000 in
set_option maxHeartbeats 4000000 in
theorem rows_any (s : Se) (w : World) :
    Calls Tryz.prog 174 #[s.v] w fun e w' => (∃ v, e = .returned v ∧ w'.ownsRow w.heap.size 195 2 v (rowsTo (hasS s) 256).length (flatR (rowsTo (hasS s) 256))) ∧ Below w.heap.size w w' := by
  have hr := runs_any s
  refine calls_marks Tryz.func174 rfl ?_
  simp only [Tryz.ntmps174, List.size_toArray, List.length_cons, List.length_nil, Nat.reduceAdd, Nat.reduceSub, Array.replicate_succ, Array.replicate_zero, List.push_toArray, List.append_toArray, List.nil_append, List.cons_append]
  go_wp2_with (go_at_call 199; refine (hr _).mono ?_; clear hr; rintro e w1 ⟨rfl, rfl⟩)
  obtain ⟨WR, hWR⟩ : ∃ WR, WR = ((w.alloc (.cells #[.int .u64 s.a, .int .u64 s.b, .int .u64 s.c, .int .u64 s.d] 30)).alloc (.cells #[.slice none 0 0] 193)).alloc (.cells s.cs 30) := ⟨_, rfl⟩
  have hz : WR.heap.size = w.heap.size + 3 := by rw [hWR]; simp
  have hB : Below w.heap.size w WR := by rw [hWR]; exact (((Below.refl _ _).alloc (Nat.le_refl _) _).alloc (by simp) _).alloc (by simp; omega) _
  have hR : WR.heap[w.heap.size + 1]? = some (.cells #[.slice none 0 0] 193 (0, 0)) := by rw [hWR]; exact (alloc_old (by simp)).trans newAt
  have hS : WR.heap[w.heap.size + 1 + 1]? = some (.cells s.cs 30 (0, 0)) := by
    rw [hWR]
    have h := heap_alloc_new ((w.alloc (.cells #[.int .u64 s.a, .int .u64 s.b, .int .u64 s.c, .int .u64 s.d] 30)).alloc (.cells #[.slice none 0 0] 193)) (.cells s.cs 30)
    rw [World.size_alloc, World.size_alloc] at h
    exact h
  rw [← hWR]
  clear hWR
  obtain ⟨i0, hi, hz0, hz1, hz2⟩ := info_parts infoR2
  have HI := hid hi
  have HZ := hid (And.intro hz0 (And.intro hz1 hz2))
  have HSZ := hid hz
  clear hi hz0 hz1 hz2
  have hlt := lt_of_heap hS
  refine (wpIn_wide (n := 5)).1 (wpIn_rangeFunc_ownH (F := Fence.wide) (n := 5) rfl (by decide) (gf := 223) (lb := #[.pointer (some ⟨w.heap.size + 1 + 1, 0, none⟩)]) rfl trivial (enters_of Tryz.func223 (by kernel_rfl) rfl)
    (runs_stops (n := 4) (by decide) hS) (fun h1 h2 => h1.trans h2) (fun W l o o' hl _ _ _ => ⟨by simp, World.putObj_heap_other (by omega)⟩) (Below.refl _ _) (fun _ => rfl)
    (RI w WR) (fun _ _ _ => False) (RI.own (by omega)) (fun _ _ _ _ _ hs _ _ => hs)
    ⟨hB, Nat.le_refl _, _, hR, World.ownsRow_nil _ _ _ _⟩
    (fun x a' W => ∃ Bx, WR.heap.size ≤ Bx ∧ W.heap[Bx]? = some (.cells #[.int .u8 x.1, .int .u8 x.2] 195 (0, 0)) ∧ a' = { tmps := #[s.v, .pointer (some ⟨w.heap.size, 0, none⟩), .slice none 0 0, .pointer (some ⟨w.heap.size + 1, 0, none⟩), .pointer (some ⟨Bx, 0, none⟩), .agg #[.int .u64 s.a, .int .u64 s.b, .int .u64 s.c, .int .u64 s.d], .func (.func 223) #[] #[.pointer (some ⟨w.heap.size + 1 + 1, 0, none⟩)], .agg #[.int .u8 x.1, .int .u8 x.2], undef, undef, undef, undef, undef], defers := [] })
    (fun x a' _ X Y r hs hg hr => by
      obtain ⟨Bx, e1, e2, e3⟩ := hs
      exact ⟨Bx, e1, (hg.block _ (lt_of_heap e2) (fun e => by
        obtain ⟨_, o, h2, h3⟩ := hr _ e.symm
        rw [e2] at h2; cases h2; cases h3)).trans e2, e3⟩)
    ?assign ?body ?done ?stop)
  case assign =>
    rintro l pre x W K hI hK
    have hsz := hI.2.1
    gi_wp2
    refine hK _ _ ((KeepsOthers.alloc _ _).from _) ⟨by simp, alloc_old (by omega)⟩ (RI.own (by omega) _ _ _ none hI (World.grownBy_alloc _ _ _) (fun r e => by cases e)) ?_
    exact ⟨W.heap.size, hsz, heap_alloc_new _ _, rfl⟩
  case body =>
    rintro l pre x a' W hl ⟨r, hr⟩ ⟨hb, hsz, v, hv, ho⟩ ⟨Bx, hBx, hbx, rfl⟩ hlen
    obtain ⟨ad, cp, rfl⟩ := own_shape ho
    have c0 := cell_blk (i := 0) hbx rfl
    have c1 := cell_blk (i := 1) hbx rfl
    have d0 := cell_blk (i := 0) hv rfl
    have f0 := free_box (i := 0) hv
    have HO := hid ho
    have HBX := hid hbx
    have HV := hid hv
    have HB := hid hb
    have hRW := lt_of_heap hv
    clear hbx hv hb ho
    gi_wp2_with (gi_at_builtin; refine wpListIn_append_own _ rfl _ _ 193 rfl WR.heap.size 195 i0 (.agg #[.int .u8 0, .int .u8 0]) 2 2 Tryz.underlying193 HI.out HZ.out.1 HZ.out.2.1 HZ.out.2.2 rfl (by decide) (.slice ad pre.length cp) pre.length (flatR pre) rfl (HO.out.alloc _) ⟨W.heap.size, 0, none⟩ 1 1 [.int .u8 x.1, .int .u8 x.2] rfl rfl (two_at (heap_alloc_new _ _)) (by simp [Value.oneCell']) (by unfold maxLen; omega) (by omega) (by simp; omega) ?_; intro v' w1 hown hgrow _; obtain ⟨ad1, cp1, rfl⟩ := own_shape hown; have HO1 := hid hown; have HG1 := hid hgrow; have hb1 := (hgrow.block (w.heap.size + 1) (by simp; omega) (fun e => by have := (HO.out.lt _ e.symm).1; omega)).trans ((alloc_old hRW).trans HV.out); have d1 := cell_blk (i := 0) hb1 rfl; have f1 := free_box (i := 0) hb1; have HV1 := hid hb1; clear hown hgrow hb1)
    refine ⟨((((KeepsOthers.alloc W _).trans (KeepsOthers.of_grownBy HG1.out (fun j o e h => own_cells (HO.out.alloc _) e h))).trans (KeepsOthers.setCell _ _ _)).from _), ⟨?_, ?_⟩, ?_, ?_, _, heap_setCell_same _ _ _ _ _ _ HV1.out, ?_⟩
    · have := HG1.out.size; simp at this ⊢; omega
    · exact (box_other _ (by omega)).trans ((HG1.out.block _ (by simp; omega) (fun e => by have := (HO.out.lt _ e.symm).1; omega)).trans (alloc_old (by omega)))
    · refine (HB.out.trans ?_)
      have h1 : Below w.heap.size W (W.alloc (.cells #[.int .u8 x.1, .int .u8 x.2] 195)) := (Below.refl _ _).alloc HB.out.size _
      exact (h1.trans (below_grown (HO.out.alloc _) HG1.out (by simp; omega) |>.mono (by omega))).setCell (p := ⟨w.heap.size + 1, 0, none⟩) (by show w.heap.size ≤ w.heap.size + 1; omega) _
    · have := HG1.out.size; simp at this ⊢; omega
    · rw [List.length_append, flatR_snoc]
      exact ownsRow_same HO1.out (fun k cur hk hb => box_other _ (by omega))
  case done =>
    rintro D ys W hD rfl ⟨hb, hsz, v, hv, ho⟩ hK
    have d0 := cell_blk (i := 0) hv rfl
    obtain ⟨ad, cp, rfl⟩ := own_shape ho
    go_wp2
    refine ⟨by simp, .inl ⟨_, _, rfl, run_takeDeferred hK, ?_⟩⟩
    refine ⟨_, results_tmp rfl _ _ _, ⟨_, rfl, ?_⟩, ?_⟩
    · exact own_low (ownsRow_same ho fun k cur hk _ => World.putObj_heap_other (fun e => by rw [e, hK] at hk; cases hk)) (by omega)
    · exact ⟨hb.os, hb.tape, hb.output, by have := hb.size; simpa using this, fun k hk => (World.putObj_heap_other (by omega)).trans (hb.block k hk)⟩
  case stop =>
    rintro D c pre W _ _ h _
    exact h.elim
end Go.Proofs.YtfljcfdfgojdoaaGreatDoor.Sh
