/-
  Law 27's example: an image of nothing, written and read again.
-/
import Derived.Test.YtdokeelodcckoaaImgFf
import Derived.Test.YtdokeelodcckoaaImgS
import Derived.Lib.SlBytesConst
namespace Go.Proofs.Ytdokeelodcckoaa.Im
open Go.RowKit Go.Lib

abbrev img0 : Img := ⟨[], []⟩
abbrev bytes0 : List B := [87, 72, 1, 0, 0, 0, 4, 144, 147, 0, 0, 0, 0]
theorem enc0 : encode nameOk img0 = (bytes0, 0) := by kernel_rfl
theorem img0_in (F : Nat → Prop) (w : World) : ImgIn F w (.slice none 0 0) (.slice none 0 0) img0 := ⟨⟨none, 0, rfl, Nat.zero_le _, fun h => absurd rfl h⟩, ⟨none, 0, rfl, Nat.zero_le _, fun h => absurd rfl h⟩⟩
theorem img0_lens : ImgLens img0 := ⟨fun r h => absurd h (List.not_mem_nil), fun c h => absurd h (List.not_mem_nil)⟩
theorem nameOk_le (s : List B) (h : nameOk s = true) : s.length ≤ 256 := by have := nameOk_len h; omega
theorem dec0 : decode nameOk bytes0 = .ok img0 := decode_enc nameOk_le enc0
theorem BytesC.lt {F : Nat → Prop} {w : World} {v : Value} {l : List B} (h : BytesC F w v l) : BytesC (fun g => F g ∧ g < w.heap.size) w v l := by
  obtain ⟨ad, cap, h1, h2, h3, h4⟩ := h
  refine ⟨ad, cap, h1, h2, h3, fun hl => ?_⟩
  obtain ⟨g, off, h5, h6, h7⟩ := h4 hl
  obtain ⟨c, hc, _⟩ := h7 0 (List.length_pos_iff.2 hl)
  exact ⟨g, off, h5, ⟨h6, World.block_lt_of_cell? w _ hc⟩, h7⟩
theorem dec_wh : decode nameOk [87, 72] = .error 6 := rfl
def AwPost (w : World) (e : Ending) (w' : World) : Prop := e = .returned (.bool true) ∧ Below w.heap.size w w'

set_option maxRecDepth 100000 in
set_option maxHeartbeats 2000000 in
theorem awake_any (w : World) : Calls Try.prog 11 #[] w (AwPost w) := by
  go_enter Try.func11, Try.ntmps11
  go_wp2_with fail
  refine (encode_any (img0_in (fun _ => False) _) (fun g h => h.elim) img0_lens).mono ?_
  rintro e w1 ⟨hb1, v1, rfl, hv1⟩
  rw [enc0] at hv1 ⊢
  have HV1 := hid hv1
  obtain ⟨ad1, cp1, rfl, hv11, hv12, _⟩ := hv1
  go_wp2_with fail
  refine (decode_any HV1.out.lt (fun g hg => hg.2)).mono ?_
  rintro e w2 ⟨hb2, hp2⟩
  rw [dec0] at hp2
  obtain ⟨va, vb, rfl, hi2, _⟩ := hp2
  obtain ⟨ada, cpa, rfl, _, _⟩ := hi2.rules
  obtain ⟨adb, cpb, rfl, _, _⟩ := hi2.classes
  clear hi2
  have HV2 := hid (HV1.out.lt.frame (F' := fun g => g < w1.heap.size) (w' := w2) (fun g hg => hg.2) (fun g hg _ => hb2.block g hg.2))
  have hb12 := hb1.trans (hb2.mono hb1.size)
  have hs2 := hb2.size
  clear HV1
  go_upto_region 3 with fail
  generalize hW3 : w2.alloc (.cells #[.slice ada 0 cpa, .slice adb 0 cpb] 25) = w3
  have HX3 := hid (show w3.heap[w2.heap.size]? = some (.cells #[.slice ada 0 cpa, .slice adb 0 cpb] 25 (0, 0)) by rw [← hW3]; exact heap_alloc_new _ _)
  have hb3 : Below w2.heap.size w2 w3 := by rw [← hW3]; exact (Below.refl _ _).alloc (Nat.le_refl _) _
  have HZ3 := hid (show w3.heap.size = w2.heap.size + 1 by rw [← hW3, World.size_alloc])
  clear hW3
  have HWH := hid (show BytesC (fun g => g = w3.heap.size) (w3.alloc (.cells #[.int .u8 87, .int .u8 72] 5 (2, 3))) (.slice (some ⟨w3.heap.size, 0, none⟩) 2 2) [87, 72] from ⟨_, 2, rfl, Nat.le_refl _, by unfold maxLen; omega, fun _ => ⟨_, 0, rfl, rfl, fun i hi => by
    match i, hi with
    | 0, _ => exact ⟨_, World.cell?_alloc_mark w3 _ _ _ 0, rfl⟩
    | 1, _ => exact ⟨_, World.cell?_alloc_mark w3 _ _ _ 1, rfl⟩⟩⟩)
  have h34 : Below w2.heap.size w2 (w3.alloc (.cells #[.int .u8 87, .int .u8 72] 5 (2, 3))) := hb3.alloc (by rw [HZ3.out]; omega) _
  have hcv := Go.Lib.run_convert_bytes_const (P := Try.prog) w3 26 5 #[.int .u8 87, .int .u8 72] 2 2 Try.underlying26 Try.underlying5
  go_wp2_with fail
  refine (decode_any HWH.out (fun g hg => by rw [hg]; simp)).mono ?_
  rintro e w5 ⟨hb5, hp5⟩
  rw [dec_wh] at hp5
  obtain rfl := hp5
  have hb25 := h34.trans (hb5.mono h34.size)
  have HV5 := hid (HV2.out.frame (w' := w5) (fun _ h => h) (fun g hg _ => hb25.block g (by omega)))
  have HX5 := hid ((hb5.block w2.heap.size (by rw [World.size_alloc, HZ3.out]; omega)).trans ((alloc_old (by rw [HZ3.out]; omega)).trans HX3.out))
  clear HV2 HX3 HWH
  have hs5 := hb5.size
  have hz3 := HZ3.out
  simp only [World.size_alloc] at hs5
  go_upto_region 4 with fail
  have hB9 : ∀ o : Obj, Below w.heap.size w (w5.alloc o) := fun o => (hb12.trans (hb25.mono (by have := hb12.size; omega))).alloc (by have := hb12.size; omega) o
  have hcs : (convert 26 9 (.slice ad1 13 cp1)).run Try.prog (w5.alloc (.cells #[.slice none 0 0, .slice none 0 0] 25)) = .ok (.string ⟨#[87, 72, 1, 0, 0, 0, 4, 144, 147, 0, 0, 0, 0]⟩) (w5.alloc (.cells #[.slice none 0 0, .slice none 0 0] 25)) := bytes_str (HV5.out.bytes.frame (w' := w5.alloc (.cells #[.slice none 0 0, .slice none 0 0] 25)) (fun _ h => h) (fun g hg hl => alloc_old hl))
  obtain ⟨x0, x1⟩ := twocells ((alloc_old (o := .cells #[.slice none 0 0, .slice none 0 0] 25) (lt_of_heap HX5.out)).trans HX5.out)
  go_wp2_with fail
  go_ret
  exact ⟨rfl, hB9 _⟩
end Go.Proofs.Ytdokeelodcckoaa.Im
