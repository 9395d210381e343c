/-
  Contracts of the writer's methods number, bit, text.
-/
import Derived.Test.YtdokeelodcckoaaImgW
import Derived.Lib.ConvBytes
namespace Go.Proofs.Ytdokeelodcckoaa.Im
open Go.RowKit Go.Lib

theorem cells_new (w : World) (cs : Array Value) (T : TypeId) (j : Nat) (h : j < cs.size) : (w.alloc (.cells cs T)).cell? ⟨w.heap.size, 0 + j, none⟩ = some cs[j] := by
  rw [Nat.zero_add]
  exact (cell_of_row _ _ j _ _ _ (heap_alloc_new w _)).trans (Array.getElem?_eq_getElem h)

set_option maxRecDepth 100000 in
set_option maxHeartbeats 400000 in
theorem number_any {P : Nat} {w : World} {l : List B} {n : Int} (h : WOwn P w l) (h0 : 0 ≤ n) (h1 : n ≤ 9223372036854775807) :
    Calls Try.prog 21 #[.pointer (some ⟨P, 0, none⟩), .int .i64 n] w fun e w' => e = .returned (.tuple #[]) ∧ WOwn P w' (l ++ eNum n) ∧ Upd P w w' := by
  have H := hid h
  clear h
  go_enter Try.func21, Try.ntmps21
  go_wp2_with fail
  refine (put_any (l := l) (b := eNum n) (g := w.heap.size) (off := 0) (cap := 2) (H.out.alloc _) ?hb (by show 2 ≤ _; omega)).mono ?_
  case hb =>
    intro j hj
    have hj2 : j < 2 := hj
    refine (cells_new w #[.int .u8 (n / 256 % 256), .int .u8 (n % 256)] _ j hj2).trans ?_
    obtain rfl | rfl : j = 0 ∨ j = 1 := by omega
    · show some (Value.int .u8 (n / 256 % 256)) = some (Value.int .u8 ((UInt8.ofNat (n.toNat / 256)).toNat : Int))
      congr 2; simp; omega
    · show some (Value.int .u8 (n % 256)) = some (Value.int .u8 ((UInt8.ofNat n.toNat).toNat : Int))
      congr 2; simp; omega
  rintro e w' ⟨rfl, hW, hU⟩
  go_wp2
  go_end0
  exact ⟨rfl, hW, ((Upd.refl P w).alloc _).trans hU⟩

set_option maxRecDepth 100000 in
set_option maxHeartbeats 400000 in
theorem byte_any {P : Nat} {w : World} {l : List B} (c : B) (h : WOwn P w l) :
    Calls Try.prog 37 #[.pointer (some ⟨P, 0, none⟩), .slice (some ⟨w.heap.size, 0, none⟩) 1 1] (w.alloc (.cells #[bV c] 5)) fun e w' => e = .returned (.tuple #[]) ∧ WOwn P w' (l ++ [c]) ∧ Upd P w w' :=
  (put_any (l := l) (b := [c]) (g := w.heap.size) (off := 0) (cap := 1) (h.alloc _) (fun j hj => by
    have hj1 : j < 1 := hj
    refine (cells_new w #[bV c] _ j hj1).trans ?_
    obtain rfl : j = 0 := by omega
    rfl) (by simp)).mono fun e w' ⟨h1, h2, h3⟩ => ⟨h1, h2, ((Upd.refl P w).alloc _).trans h3⟩

set_option maxRecDepth 100000 in
set_option maxHeartbeats 400000 in
theorem bitW_any {P : Nat} {w : World} {l : List B} (e : Bool) (h : WOwn P w l) :
    Calls Try.prog 38 #[.pointer (some ⟨P, 0, none⟩), .bool e] w fun e' w' => e' = .returned (.tuple #[]) ∧ WOwn P w' (l ++ eBit e) ∧ Upd P w w' := by
  have H := hid h
  clear h
  cases e
  · go_enter Try.func38, Try.ntmps38
    go_wp2_with (go_at_call 37; refine (byte_any 0 H.out).mono ?_; rintro e w1 ⟨rfl, hW, hU⟩)
    go_end0
    exact ⟨rfl, hW, hU⟩
  · go_enter Try.func38, Try.ntmps38
    go_wp2_with (go_at_call 37; refine (byte_any 1 H.out).mono ?_; rintro e w1 ⟨rfl, hW, hU⟩)
    go_end0
    exact ⟨rfl, hW, hU⟩

theorem WOwn.same {P : Nat} {w w' : World} {l : List B} (h : WOwn P w l) (hk : ∀ k, k < w.heap.size → w'.heap[k]? = w.heap[k]?) : WOwn P w' l := by
  obtain ⟨v, a, h1, h2, h3⟩ := h
  exact ⟨v, a, (hk _ (lt_of_heap h1)).trans h1, ownsRow_same h2 (fun k cur hc _ => hk _ (lt_of_heap hc)), h3⟩
theorem Upd.bytes {P : Nat} {w w1 : World} (h : Upd P w w1) (s : ByteArray) : Upd P w (bytesWorld w1 5 s) :=
  h.trans ⟨by simp [bytesWorld, World.freeze]; rfl, by simp [bytesWorld, World.freeze], by simp [bytesWorld, World.freeze]; rfl, by rw [bytesWorld_size]; omega, fun k hk _ _ => bytesWorld_at_old _ _ _ _ hk⟩
theorem conv_bytes (s : ByteArray) : ∀ w : World, (convert 9 26 (.string s)).run Try.prog w = .ok (.slice (some ⟨w.heap.size, 0, none⟩) s.size (grownCap w s.size 0 5)) (bytesWorld w 5 s) :=
  fun w => Go.Lib.run_convert_string_bytes w _ _ _ s Try.underlying9 Try.underlying26 Try.underlying5
theorem bytes_read (s : ByteArray) (w : World) (j : Nat) (hj : j < s.data.toList.length) : (bytesWorld w 5 s).cell? ⟨w.heap.size, 0 + j, none⟩ = some (bV s.data.toList[j]) := by
  have hj' : j < s.size := hj
  rw [Nat.zero_add, bytesWorld_cell _ _ _ _ hj']
  simp [List.getD, hj']
theorem put_of {P : Nat} {w : World} {l b : List B} {g off cap n : Nat} (hnb : n = b.length) (h : WOwn P w l) (hb : ∀ j (hj : j < b.length), w.cell? ⟨g, off + j, none⟩ = some (bV b[j])) (hn : b.length ≤ 140737480000000) :
    Calls Try.prog 37 #[.pointer (some ⟨P, 0, none⟩), .slice (some ⟨g, off, none⟩) n cap] w fun e w' => e = .returned (.tuple #[]) ∧ WOwn P w' (l ++ b) ∧ Upd P w w' := by
  subst hnb; exact put_any h hb hn

set_option maxRecDepth 100000 in
set_option maxHeartbeats 400000 in
theorem textW_any {P : Nat} {w : World} {l : List B} (s : ByteArray) (hs : s.size ≤ 65535) (h : WOwn P w l) :
    Calls Try.prog 23 #[.pointer (some ⟨P, 0, none⟩), .string s] w fun e' w' => e' = .returned (.tuple #[]) ∧ WOwn P w' (l ++ eText s.data.toList) ∧ Upd P w w' := by
  have H := hid h
  clear h
  have kc := conv_bytes s
  have hz : s.data.toList.length = s.size := rfl
  have HZ := hid hz
  clear hz
  go_enter Try.func23, Try.ntmps23
  go_wp2_with (first | (go_at_call 21; refine (number_any H.out (by omega) (by omega)).mono ?_; rintro e w1 ⟨rfl, hW, hU⟩; have HW := hid hW; clear hW) | (go_at_call 37; refine (put_of (b := s.data.toList) (off := 0) HZ.out.symm (HW.out.same (fun k hk => bytesWorld_at_old _ _ _ _ hk)) (bytes_read s _) (by rw [HZ.out]; omega)).mono ?_; rintro e w2 ⟨rfl, hW2, hU2⟩))
  go_end0
  refine ⟨rfl, ?_, (hU.bytes s).trans hU2⟩
  unfold eText
  rw [← List.append_assoc]
  exact hW2
end Go.Proofs.Ytdokeelodcckoaa.Im
