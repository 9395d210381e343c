/-
  The contract of nfa.Text.
-/
import Derived.Test.YtfjomnhdmkbkiaaDoorDfP
namespace Go.Proofs.YtfjomnhdmkbkiaaDoor.Im
open Go.RowKit Go.Lib

theorem textFrom_snoc (c : B) : ∀ (i : Nat) (l : List B), textFrom i (l ++ [c]) = textFrom i l ++ [⟨((i + l.length : Nat) : Int), ((i + l.length : Nat) : Int) + 1, orBit Se.none c.toNat⟩]
  | i, [] => rfl
  | i, x :: l => by
    rw [List.cons_append]
    unfold textFrom
    rw [textFrom_snoc c (i + 1) l, List.length_cons, show i + 1 + l.length = i + (l.length + 1) by omega]
    rfl
theorem textFrom_len : ∀ (i : Nat) (l : List B), (textFrom i l).length = l.length
  | _, [] => rfl
  | i, _ :: l => by unfold textFrom; rw [List.length_cons, textFrom_len (i + 1) l]; rfl
theorem infoNfa : (Tryd.prog.info? 25).map (·.size) = some 4 := by kernel_rfl
theorem one_ints {w : World} {n g : Nat} {z : Int} (hg : n ≤ g) (h : w.heap[g]? = some (.cells #[.int .i64 z] 3 (0, 0))) : IntsIn (fun q => n ≤ q ∧ q < w.heap.size) w (.slice (some ⟨g, 0, none⟩) 1 1) [z] :=
  ⟨_, 1, rfl, by unfold maxLen; simp, fun _ => ⟨g, 0, rfl, ⟨hg, lt_of_heap h⟩, fun i hi => by
    have : i = 0 := by simpa using hi
    subst this
    exact ⟨_, cell_blk h rfl, rfl⟩⟩⟩
def TextPost (w : World) (x : Except Int Nfa) (e : Ending) (w' : World) : Prop :=
  match x with
  | .error er => e = .returned (.tuple #[.agg #[.int .i64 0, .slice none 0 0, .slice none 0 0, .slice none 0 0], .int .i64 er]) ∧ Below w.heap.size w w'
  | .ok n => ∃ s a b c, e = .returned (.tuple #[.agg #[s, a, b, c], .int .i64 0]) ∧ NfaIn (fun g => w.heap.size ≤ g ∧ g < w'.heap.size) w' s a b c n ∧ Below w.heap.size w w'
set_option maxRecDepth 100000 in
set_option maxHeartbeats 4000000 in
theorem text_any (bs : List B) (w : World) (hm : bs.length ≤ 256) :
    Calls Tryd.prog 55 #[.string ⟨bs.toArray⟩] w (TextPost w (.ok ⟨bs.length + 1, [0], [bs.length], textFrom 0 bs⟩)) := by
  have hsz : (⟨bs.toArray⟩ : ByteArray).size = bs.length := rfl
  obtain ⟨s, hs⟩ : ∃ s : ByteArray, s = ⟨bs.toArray⟩ := ⟨_, rfl⟩
  have hss : s.size = bs.length := by rw [hs]; rfl
  have HS := hid hs
  rw [← hs]
  have hss' : s.size ≤ 256 := by omega
  have HSS := hid hss
  clear hsz hs hss
  go_enter Tryd.func55, Tryd.ntmps55
  go_wp2_with fail
  go_loopw [17] (fun i wr => ∃ (k : Nat) (v : Value), k ≤ s.size ∧ i = .int .i64 k ∧ wr.heap[w.heap.size + 1]? = some (.cells #[v] 120 (0, 0)) ∧ OwnEdges wr (w.heap.size + 1) v (textFrom 0 (bs.take k)) ∧ wr.heap[w.heap.size]? = some (.cells #[.int .i64 0, .slice none 0 0, .slice none 0 0, .slice none 0 0] 25 (0, 0)) ∧ Below w.heap.size w wr) (fun i _ => s.size - (intOf i).toNat)
  case atStart => exact ⟨0, .slice none 0 0, Nat.zero_le _, rfl, newB _ _ _, World.ownsRow_nil _ _ _ _, (alloc_old (by simp)).trans (heap_alloc_new _ _), ((Below.refl _ _).alloc (Nat.le_refl _) _).alloc (by simp) _⟩
  case round =>
    obtain ⟨k, v, hk, rfl, hmk, ho, hres, hbel⟩ := hrel
    by_cases hlt : k < s.size
    · have hlt' : k < bs.length := by rw [← HSS.out]; exact hlt
      have HMK := hid hmk
      have HO := hid ho
      have HRES := hid hres
      clear hmk ho hres
      have HC := hid (show s[k]'hlt = bs[k]'hlt' by have h := HS.out; subst h; rfl)
      have HTX := hid (show textFrom 0 (bs.take (k + 1)) = textFrom 0 (bs.take k) ++ [⟨(k : Int), (k : Int) + 1, orBit Se.none (s[k]'hlt).toNat⟩] by
        rw [take_succ' _ _ hlt', textFrom_snoc, ← HC.out, List.length_take, Nat.min_eq_left (Nat.le_of_lt hlt'), Nat.zero_add])
      have HTL := hid (show (textFrom 0 (bs.take k)).length ≤ 100000 by rw [textFrom_len, List.length_take]; omega)
      have hz := hbel.size
      clear HC hlt'
      go_wp2_with (first | (go_at_call 73; refine (of_one (s[k]'hlt) _ _ (heap_alloc_new _ _)).mono ?_; rintro e w2 ⟨rfl, hb2⟩; have HM2 := hid (((hb2.block _ (Nat.lt_trans (lt_of_heap HMK.out) (lt_alloc wr _))).trans (alloc_old (lt_of_heap HMK.out))).trans HMK.out); have HO2 := hid (own_after HO.out hb2); have hed := edge_any HM2.out HO2.out (Nat.le_refl _) HTL.out ⟨(k : Int), (k : Int) + 1, orBit Se.none (s[k]'hlt).toNat⟩) | (go_at_call 85; refine hed.mono ?_; rintro e w3 ⟨v3, rfl, hm3, ho3, hb3, hs3⟩))
      go_roundw
      case rel =>
        refine ⟨k + 1, v3, by omega, by go_num, hm3, by rw [HTX.out]; exact ho3, ?_, ?_⟩
        · exact (hb3.block _ (by omega)).trans ((hb2.block _ (Nat.lt_trans (lt_of_heap HRES.out) (lt_alloc wr _))).trans ((alloc_old (lt_of_heap HRES.out)).trans HRES.out))
        · exact ((hbel.alloc hz _).trans (hb2.mono (by simp; omega))).trans (hb3.mono (by omega))
      case measure => simp [intOf]; omega
    · obtain rfl : k = s.size := by omega
      have HMK := hid hmk
      have HO := hid ho
      have HRES := hid hres
      have HTK := hid (show bs.take s.size = bs by rw [HSS.out, List.take_length])
      have hO := HO.out
      rw [HTK.out] at hO
      have HO' := hid hO
      have hlen : (textFrom 0 bs).length ≤ 256 := by rw [textFrom_len]; exact hm
      obtain ⟨adv, cpv, rfl⟩ := own_shape hO
      have hml := lt_of_heap hmk
      have m0 : ∀ o1 o2 : Obj, ((wr.alloc o1).alloc o2).cell? ⟨w.heap.size + 1, 0, none⟩ = some (.slice adv (textFrom 0 bs).length cpv) := fun o1 o2 => (cell_heap ((alloc_old (by simp; omega)).trans (alloc_old hml))).trans (cell_blk hmk rfl)
      have HZ := hid hbel.size
      clear hmk ho hres hO
      go_wp2_with (refine wpList_store_blk rfl 25 (.tmp 2) (.tmp 42) rfl 4 infoNfa w.heap.size 25 _ ((alloc_old (by have := lt_of_heap HRES.out; simp; omega)).trans ((alloc_old (lt_of_heap HRES.out)).trans HRES.out)) rfl #[.int .i64 ((s.size : Int) + 1), .slice (some ⟨wr.heap.size, 0, none⟩) 1 1, .slice (some ⟨wr.heap.size + 1, 0, none⟩) 1 1, .slice adv (textFrom 0 bs).length cpv] rfl rfl rfl rfl ?_)
      have hz := HZ.out
      have hl0 := lt_of_heap HRES.out
      have hg0 := (alloc_old (o := .cells #[.int .i64 s.size] 3) (show w.heap.size < (wr.alloc (.cells #[.int .i64 0] 3)).heap.size by simp; omega)).trans ((alloc_old hl0).trans HRES.out)
      refine bodyPost_ret (results_cell_one (ty := 25) rfl _ _ w.heap.size 25 _ (0, 0) _ rfl (setRow_heap hg0 _) Tryd.underlying25 rfl (by kernel_rfl)) rfl ?_
      have hbf : Below w.heap.size w (((wr.alloc (.cells #[.int .i64 0] 3)).alloc (.cells #[.int .i64 s.size] 3)).setRow w.heap.size #[.int .i64 ((s.size : Int) + 1), .slice (some ⟨wr.heap.size, 0, none⟩) 1 1, .slice (some ⟨wr.heap.size + 1, 0, none⟩) 1 1, .slice adv (textFrom 0 bs).length cpv]) :=
        Below.setRow (((hbel.alloc hz _).alloc (by simp; omega) _)) (Nat.le_refl _) _
      refine ⟨_, _, _, _, rfl, ⟨by rw [HSS.out], one_ints (by omega) ((setRow_other _ (by omega)).trans ((alloc_old (by simp)).trans (heap_alloc_new wr _))), one_ints (by omega) ((setRow_other _ (by omega)).trans (by rw [← HSS.out]; exact newB _ _ _)), ?_⟩, hbf⟩
      have hE := edges_of_own HO'.out (by unfold maxLen; omega)
      refine EdgesIn.frame hE (fun g hg => ⟨by omega, ?_⟩) (fun g hg _ => (setRow_other _ (by omega)).trans ((alloc_old (by simp; omega)).trans (alloc_old hg.2)))
      have := hg.2
      simp
      omega
end Go.Proofs.YtfjomnhdmkbkiaaDoor.Im
