/-
  The walk of DfaParts: by two texts it goes where it goes by both.
-/
import Derived.Test.YtfjomnhdmkbkiaaDoorDgC
namespace Go.Proofs.YtfjomnhdmkbkiaaDoor.Im
open Go.RowKit Go.Lib Go.Maps Go.Shelf

set_option maxRecDepth 100000 in
set_option maxHeartbeats 8000000 in
theorem parts_walk {F : Nat → Prop} {w : World} {a b c : Value} {d : Dfa} (hd : DfaIn F w a b c d) (hF : ∀ g, F g → g < w.heap.size) (s : Int) (u v : ByteArray) (hu : u.size ≤ 140737488351232) (hv : v.size ≤ 140737488351232) (hT : Tab w) :
    Calls Tryd.prog 4 #[.agg #[a, b, c], .int .i64 s, .string u, .string v] w (AwPost w) := by
  generalize hW0 : w.alloc (.cells #[a, b, c] 30) = W0
  have hDb : W0.heap[w.heap.size]? = some (.cells #[a, b, c] 30 (0, 0)) := by rw [← hW0]; exact heap_alloc_new _ _
  have hz0 : W0.heap.size = w.heap.size + 1 := by rw [← hW0]; simp
  have hB0 : Below w.heap.size w W0 := by rw [← hW0]; exact (Below.refl _ _).alloc (Nat.le_refl _) _
  have HD := hid (fun (W : World) (h : Below w.heap.size w W) => (show DfaIn F W a b c d from hd.frame (fun _ h => h) (fun g hg _ => h.block g (hF g hg))))
  have HF := hid (fun (W : World) (h : Below w.heap.size w W) (g : Nat) (hg : F g) => (show g < W.heap.size from Nat.lt_of_lt_of_le (hF g hg) h.size))
  have HT := hid (fun (W : World) (h : Below w.heap.size w W) => (show Tab W from hT.below h))
  have HBOX := hid (fun (W : World) (h : Below (w.heap.size + 1) W0 W) => dcells ((h.block w.heap.size (by omega)).trans hDb))
  obtain ⟨ad1, cp1, rfl, hm1, _⟩ := hd.cls
  obtain ⟨ad2, cp2, rfl, hm2, _⟩ := hd.next
  obtain ⟨ad3, cp3, rfl, hm3, _⟩ := hd.fin
  unfold maxLen at hm1 hm2 hm3
  have HW0 := hid hW0
  have HB := hid (fun (W : World) (h : Below (w.heap.size + 1) W0 W) => hB0.trans (h.mono (by omega)))
  have HZ := hid hz0
  clear hd hF hT hDb hW0 hB0 hz0
  obtain ⟨q0, q1, q2⟩ := HBOX.out W0 (Below.refl _ _)
  go_enter Tryd.func4, Tryd.ntmps4
  go_wp2_with fail
  rw [HW0.out]
  refine (few_some (HD.out W0 (HB.out _ (Below.refl _ _))) (HF.out W0 (HB.out _ (Below.refl _ _)))).mono ?_
  rintro e w1 ⟨⟨x, rfl⟩, hb1⟩
  rw [HZ.out] at hb1
  have H1 := hid hb1
  clear q0 q1 q2 hb1
  cases x with
  | false =>
    go_wp2_with fail
    go_ret
    exact ⟨rfl, HB.out _ H1.out⟩
  | true =>
    by_cases h200 : 200 < u.size + v.size
    · have h200' : (200 : Int) < (u.size : Int) + (v.size : Int) := by omega
      go_wp2_with fail
      go_ret
      exact ⟨rfl, HB.out _ H1.out⟩
    · have h200' : ¬ ((200 : Int) < (u.size : Int) + (v.size : Int)) := by omega
      obtain ⟨q0, q1, q2⟩ := HBOX.out w1 H1.out
      have hr1 := run_any (HD.out w1 (HB.out _ H1.out)) (HF.out w1 (HB.out _ H1.out)) s u (by omega)
      go_wp2_with fail
      refine hr1.mono ?_
      clear hr1
      rintro e w2 ⟨rfl, hb2⟩
      have H2 := hid (H1.out.trans (hb2.mono (by have := H1.out.size; have := HZ.out; omega)))
      clear q0 q1 q2 hb2
      have hor := run_cases d s u.data.toList
      by_cases h0 : (runM d s u.data.toList).2 = 0
      · obtain ⟨hl1, hl2, hl3⟩ := run_two v.data.toList h0
        have HL1 := hid hl1
        have HL2 := hid hl2
        have HL3 := hid hl3
        clear hl1 hl2 hl3 hor
        generalize runFrom d s (u.data.toList ++ v.data.toList) = z at *
        rw [h0]
        clear h0
        generalize (runM d s u.data.toList).1 = k at *
        obtain ⟨q0, q1, q2⟩ := HBOX.out w2 H2.out
        have hr2 := run_any (HD.out w2 (HB.out _ H2.out)) (HF.out w2 (HB.out _ H2.out)) k v (by omega)
        rw [HL1.out] at hr2
        go_wp2_with fail
        refine hr2.mono ?_
        clear hr2
        rintro e w3 ⟨rfl, hb3⟩
        have H3 := hid (H2.out.trans (hb3.mono (by have := H2.out.size; have := HZ.out; omega)))
        clear q0 q1 q2 hb3
        obtain ⟨q0, q1, q2⟩ := HBOX.out w3 H3.out
        have hsz : (u ++ v).size = u.size + v.size := ByteArray.size_append
        have hr3 := run_any (HD.out w3 (HB.out _ H3.out)) (HF.out w3 (HB.out _ H3.out)) s (u ++ v) (by omega)
        rw [show (u ++ v).data.toList = u.data.toList ++ v.data.toList by simp, HL2.out] at hr3
        go_wp2_with fail
        refine hr3.mono ?_
        clear hr3 hsz
        rintro e w4 ⟨rfl, hb4⟩
        have H4 := hid (H3.out.trans (hb4.mono (by have := H3.out.size; have := HZ.out; omega)))
        clear q0 q1 q2 hb4
        obtain ⟨q0, q1, q2⟩ := HBOX.out w4 H4.out
        have hr4 := run_any (HD.out w4 (HB.out _ H4.out)) (HF.out w4 (HB.out _ H4.out)) s ⟨#[]⟩ (by decide)
        rw [show (⟨#[]⟩ : ByteArray).data.toList = [] from rfl, HL3.out] at hr4
        go_wp2_with fail
        refine hr4.mono ?_
        clear hr4
        rintro e w5 ⟨rfl, hb5⟩
        have H5 := hid (H4.out.trans (hb5.mono (by have := H4.out.size; have := HZ.out; omega)))
        clear q0 q1 q2 hb5
        have haw := awake_any w5 (HT.out w5 (HB.out _ H5.out))
        go_wp2_with fail
        refine haw.mono ?_
        clear haw
        rintro e w6 ⟨rfl, hb6⟩
        have H6 := hid (H5.out.trans (hb6.mono (by have := H5.out.size; have := HZ.out; omega)))
        clear hb6
        go_wp2_with fail
        go_ret
        exact ⟨rfl, HB.out _ H6.out⟩
      · have he := run_err (d := d) (s := s) (u := u.data.toList) h0
        rw [he]
        clear h0 hor he
        have haw := awake_any w2 (HT.out w2 (HB.out _ H2.out))
        go_wp2_with fail
        refine haw.mono ?_
        clear haw
        rintro e w3 ⟨rfl, hb3⟩
        have H3 := hid (H2.out.trans (hb3.mono (by have := H2.out.size; have := HZ.out; omega)))
        clear hb3
        go_wp2_with fail
        go_ret
        exact ⟨rfl, HB.out _ H3.out⟩
end Go.Proofs.YtfjomnhdmkbkiaaDoor.Im
