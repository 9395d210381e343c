/-
  Layer 11's example: what 'awake' comes to.
-/
import Derived.Test.YtfjomnhdmkbkiaaDoorDfZ
import Derived.Test.YtfjomnhdmkbkiaaDoorDgB
namespace Go.Proofs.YtfjomnhdmkbkiaaDoor.Im
open Go.RowKit Go.Lib Go.Maps Go.Shelf

theorem text_ok : ∀ (l : List B) (i : Nat), ∀ e ∈ textFrom i l, e.st.ok
  | [], _, e, h => by simp [textFrom] at h
  | c :: l, i, e, h => by
    rw [textFrom] at h
    rcases List.mem_cons.1 h with rfl | h
    · exact Se.ok_one _
    · exact text_ok l (i + 1) e h
theorem text_exN : (⟨(([97, 98] : List B).length : Int) + 1, [0], [(([97, 98] : List B).length : Int)], textFrom 0 [97, 98]⟩ : Nfa) = exN := rfl
theorem exD_cls : exD.cls.length = 256 := by decide +kernel
def AwPost (w : World) (e : Ending) (w' : World) : Prop := e = .returned (.bool true) ∧ Below w.heap.size w w'
set_option maxRecDepth 100000 in
set_option maxHeartbeats 4000000 in
theorem awake_any (w : World) (hT : Tab w) : Calls Tryd.prog 15 #[] w (AwPost w) := by
  have HT := hid hT
  clear hT
  go_enter Tryd.func15, Tryd.ntmps15
  go_wp2_with fail
  have htx := text_any [97, 98] w (by decide)
  rw [text_exN] at htx
  refine htx.mono ?_
  clear htx
  rintro e w1 hp1
  obtain ⟨s1, a1, b1, c1, rfl, hn1, hb1⟩ := hp1
  obtain rfl : s1 = .int .i64 3 := hn1.states
  obtain ⟨ada, cpa, ea, _, _⟩ := hn1.starts
  obtain rfl : a1 = .slice ada 1 cpa := ea
  obtain ⟨adb, cpb, eb, _, _⟩ := hn1.ends
  obtain rfl : b1 = .slice adb 1 cpb := eb
  obtain ⟨adc, cpc, ec, _, _⟩ := hn1.edges
  obtain rfl : c1 = .slice adc 2 cpc := ec
  have HN1 := hid hn1
  have HB1 := hid hb1
  clear hn1 hb1
  go_upto_region 2 with fail
  generalize hW2 : w1.alloc (.cells #[.int .i64 3, .slice ada 1 cpa, .slice adb 1 cpb, .slice adc 2 cpc] 25) = w2
  have HX2 := hid (show w2.heap[w1.heap.size]? = some (.cells #[.int .i64 3, .slice ada 1 cpa, .slice adb 1 cpb, .slice adc 2 cpc] 25 (0, 0)) by rw [← hW2]; exact heap_alloc_new _ _)
  have HB2 := hid (show Below w.heap.size w w2 by rw [← hW2]; exact HB1.out.alloc HB1.out.size _)
  have HZ2 := hid (show w2.heap.size = w1.heap.size + 1 by rw [← hW2, World.size_alloc])
  have HN2 := hid (HN1.out.frame (w' := w2) (F' := fun g => w.heap.size ≤ g ∧ g < w1.heap.size) (fun _ h => h) (fun g hg _ => by rw [← hW2]; exact alloc_old hg.2))
  clear hW2 HN1
  obtain ⟨q0, q1, q2, q3⟩ := ncells HX2.out
  have hof := of_any HN2.out (fun g hg => by have := hg.2; have := HZ2.out; omega) (HT.out.below (HB2.out.mono (Nat.le_refl _))) (text_ok [97, 98] 0)
  rw [ofM_ex] at hof
  go_wp2_with fail
  refine hof.mono ?_
  clear hof
  rintro e w3 hp3
  obtain ⟨d1, d2, d3, rfl, hd3, hb3⟩ := hp3
  obtain ⟨ad1, cp1, e1, _, _⟩ := hd3.cls
  rw [exD_cls] at e1
  obtain ⟨ad2, cp2, e2, _, _⟩ := hd3.next
  obtain rfl : d2 = .slice ad2 4 cp2 := e2
  obtain ⟨ad3, cp3, e3, _, _⟩ := hd3.fin
  obtain rfl : d3 = .slice ad3 4 cp3 := e3
  subst e1
  have HD3 := hid hd3
  have HB3 := hid (HB2.out.trans (hb3.mono HB2.out.size))
  clear hd3 q0 q1 q2 q3 hb3
  go_upto_region 3 with fail
  generalize hW4 : w3.alloc (.cells #[.slice ad1 256 cp1, .slice ad2 4 cp2, .slice ad3 4 cp3] 30) = w4
  have HX4 := hid (show w4.heap[w3.heap.size]? = some (.cells #[.slice ad1 256 cp1, .slice ad2 4 cp2, .slice ad3 4 cp3] 30 (0, 0)) by rw [← hW4]; exact heap_alloc_new _ _)
  have HB4 := hid (show Below w.heap.size w w4 by rw [← hW4]; exact HB3.out.alloc HB3.out.size _)
  have HZ4 := hid (show w4.heap.size = w3.heap.size + 1 by rw [← hW4, World.size_alloc])
  have HD4 := hid (HD3.out.frame (w' := w4) (F' := fun g => w2.heap.size ≤ g ∧ g < w3.heap.size) (fun _ h => h) (fun g hg _ => by rw [← hW4]; exact alloc_old hg.2))
  clear hW4 HD3
  obtain ⟨q0, q1, q2⟩ := dcells HX4.out
  have htk := takes_any HD4.out (fun g hg => by have := hg.2; have := HZ4.out; omega) ⟨#[97, 98]⟩ (by decide)
  rw [show (⟨#[97, 98]⟩ : ByteArray).data.toList = [97, 98] from rfl, tk1] at htk
  go_wp2_with fail
  refine htk.mono ?_
  clear htk
  rintro e w5 ⟨rfl, hb5⟩
  have HB5 := hid hb5
  have HX5 := hid ((hb5.block w3.heap.size (by rw [HZ4.out]; omega)).trans HX4.out)
  have HD5 := hid (HD4.out.frame (w' := w5) (F' := fun g => w2.heap.size ≤ g ∧ g < w3.heap.size) (fun _ h => h) (fun g hg _ => hb5.block g (by have := HZ4.out; omega)))
  clear hb5 q0 q1 q2
  obtain ⟨q0, q1, q2⟩ := dcells HX5.out
  have htk := takes_any HD5.out (fun g hg => by have := hg.2; have := HZ4.out; have := HB5.out.size; omega) ⟨#[97, 98, 97]⟩ (by decide)
  rw [show (⟨#[97, 98, 97]⟩ : ByteArray).data.toList = [97, 98, 97] from rfl, tk2] at htk
  go_wp2_with fail
  refine htk.mono ?_
  clear htk
  rintro e w6 ⟨rfl, hb6⟩
  have HB6 := hid hb6
  have HX6 := hid ((hb6.block w3.heap.size (by have := HB5.out.size; have := HZ4.out; omega)).trans HX5.out)
  clear hb6 q0 q1 q2
  obtain ⟨q0, q1, q2⟩ := dcells HX6.out
  go_wp2_with fail
  go_ret
  exact ⟨rfl, HB4.out.trans ((HB5.out.trans (HB6.out.mono HB5.out.size)).mono HB4.out.size)⟩
end Go.Proofs.YtfjomnhdmkbkiaaDoor.Im
