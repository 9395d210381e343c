/-
  ImageReads returns true at every row of bytes: its walk. No condition.
-/
import Derived.Test.YtdokeelodcckoaaRs7
import Derived.Test.YtdokeelodcckoaaImgSd
import Derived.Deep.DeepCutAuto
import Derived.Deep.RegionWith
namespace Go.Proofs.Ytdokeelodcckoaa.Im
open Go.RowKit Go.Lib

/-- what Decode tells -/
def codeOf : Except Int Img → Int
  | .ok _ => 0
  | .error c => c
theorem row_bytes {w : World} {base g cap n : Nat} {l : List B} (h : w.ownsRow base 5 1 (.slice (some ⟨g, 0, none⟩) n cap) n (l.map bV)) (hn : l.length = n) : BytesC (fun q => q < w.heap.size) w (.slice (some ⟨g, 0, none⟩) n cap) l := by
  subst hn
  exact (own_bytesC h).lt.frame (fun _ h => h.2) (fun _ _ _ => rfl)
theorem ImgEq.refl (x : Img) : ImgEq x x := ⟨rfl, rfl, fun i r r' h1 h2 => by
  rw [h1] at h2
  cases h2
  exact ⟨rfl, rfl, SqEq.refl _, rfl, rfl, rfl⟩, rfl⟩
/-- what Decode hands back, an image of nothing where it tells a fault -/
def imgOf : Except Int Img → Img
  | .ok y => y
  | .error _ => img0
theorem DecPost.img {w w' : World} {r : Except Int Img} {e : Ending} (h : DecPost w r e w') : Below w.heap.size w w' ∧ ∃ p1 n1 c1 p2 n2 c2, e = .returned (.tuple #[.agg #[.slice p1 n1 c1, .slice p2 n2 c2], .int .i64 (codeOf r)]) ∧ ImgIn (fun g => g < w'.heap.size) w' (.slice p1 n1 c1) (.slice p2 n2 c2) (imgOf r) := by
  refine ⟨h.1, ?_⟩
  have h2 := h.2
  cases r with
  | error c => exact ⟨_, _, _, _, _, _, h2, img0_in _ _⟩
  | ok y =>
    obtain ⟨a, b, he, hi, _⟩ := h2
    have hi' := hi
    obtain ⟨x1, p1, rfl, _, _⟩ := hi.rules
    obtain ⟨x2, p2, rfl, _, _⟩ := hi.classes
    exact ⟨_, _, _, _, _, _, he, hi'.lt.frame (F' := fun g => g < w'.heap.size) (fun _ h => h.2) (fun _ _ _ => rfl)⟩

set_option maxRecDepth 100000 in
set_option maxHeartbeats 8000000 in
theorem reads_walk {w : World} {vb : Value} {bl : List B} (hvb : BytesC (fun g => g < w.heap.size) w vb bl) :
    Calls Try.prog 4 #[vb] w (AwPost w) := by
  have HVB := hid hvb
  obtain ⟨pb, nb, rfl, hvb1, hvb2, hvb3⟩ := hvb
  unfold maxLen at hvb2
  by_cases h6 : 60000 < bl.length
  · have h6' : (60000 : Int) < bl.length := by omega
    clear hvb3
    go_enter Try.func4, Try.ntmps4
    go_wp2_with fail
    go_ret
    exact ⟨rfl, Below.refl _ _⟩
  · have h6' : ¬ (60000 : Int) < bl.length := by omega
    have H3 := hid hvb3
    clear hvb3
    have AWK := hid (show ∀ W : World, Below w.heap.size w W → Calls Try.prog 11 #[] W (fun e W' => e = .returned (.bool true) ∧ Below w.heap.size w W' ∧ Below W.heap.size W W') from fun W hW => (awake_any W).mono fun e W' h => ⟨h.1, hW.trans (h.2.mono hW.size), h.2⟩)
    go_enter Try.func4, Try.ntmps4
    go_upto_region 3 with fail
    go_cut [3] (fun v wx => (∃ p k, v = .slice p bl.length k ∧ BytesC (fun q => q < wx.heap.size) wx (.slice p bl.length k) bl) ∧ Below w.heap.size w wx)
    case first =>
      by_cases hbe : bl = []
      · subst hbe
        rcases pb with _ | pa
        · go_wp2_with fail
          go_meet
          exact ⟨⟨_, _, rfl, ⟨_, 0, rfl, Nat.le_refl _, Nat.zero_le _, fun h => absurd rfl h⟩⟩, (Below.refl _ _).alloc (Nat.le_refl _) _⟩
        · go_wp2_with fail
          go_meet
          exact ⟨⟨_, _, rfl, ⟨_, 0, rfl, Nat.le_refl _, Nat.zero_le _, fun h => absurd rfl h⟩⟩, (Below.refl _ _).alloc (Nat.le_refl _) _⟩
      · obtain ⟨ga, oa, rfl, hga, hca⟩ := H3.out hbe
        have hlp : 0 < bl.length := List.length_pos_iff.2 hbe
        obtain ⟨j0, hj, hy0, hy1, hy2⟩ := info_parts infoB
        have HJ := hid hj
        have HZJ := hid (And.intro hy0 (And.intro hy1 hy2))
        clear hj hy0 hy1 hy2
        have hown0 : (w.alloc (.cells #[] 5)).ownsRow w.heap.size 5 1 (.slice (some ⟨w.heap.size, 0, none⟩) 0 0) 0 [] := ⟨rfl, .inr ⟨w.heap.size, 0, #[], rfl, Nat.le_refl _, heap_alloc_new _ _, Nat.le_refl _, by simp, rfl, rfl⟩⟩
        have A1 := hid (show ∀ j u, (bl.map bV)[j]? = some u → (w.alloc (.cells #[] 5)).cell? ((⟨ga, oa, none⟩ : Addr).add j) = some u from fun j u hu => by
          rw [List.getElem?_map] at hu
          obtain ⟨y, hy, rfl⟩ := Option.map_eq_some_iff.1 hu
          obtain ⟨hj, rfl⟩ := List.getElem?_eq_some_iff.1 hy
          rw [Addr.add_lit]
          obtain ⟨_, hc0, rfl⟩ := hca j hj
          exact (cell_heap (((Below.refl _ w).alloc (Nat.le_refl _) _).block ga hga)).trans hc0)
        have A2 := hid (show ∀ u ∈ bl.map bV, u.oneCell' = true from fun u hu => by obtain ⟨y, _, rfl⟩ := List.mem_map.1 hu; rfl)
        have A3 : 0 + bl.length ≤ maxLen := by unfold maxLen; omega
        have A4 : (0 + bl.length) * 1 ≤ 140737488355328 := by omega
        clear hca H3 hbe
        go_wp2_with (at_builtin; refine wpList_append_lies rfl _ _ 26 rfl w.heap.size 5 j0 _ 1 1 Try.underlying26 HJ.out HZJ.out.1 HZJ.out.2.1 HZJ.out.2.2 rfl Nat.one_pos _ 0 [] rfl hown0 ⟨ga, oa, none⟩ bl.length nb (bl.map bV) rfl (by simp) A1.out A2.out (by omega) A3 A4 (by rw [World.size_alloc]; omega) ?_; intro g3 cap3 w3 hown3 hgrow3 hat3 hlt3; rw [Nat.zero_add, List.nil_append] at hown3; have HO3 := hid hown3; have HG3 := hid hgrow3; clear hown3 hgrow3 hat3 hlt3)
        have hB3 : Below w.heap.size w w3 := ((Below.refl _ w).alloc (Nat.le_refl _) _).grown HG3.out (by rw [World.size_alloc]; omega) (fun q hq => by cases hq; exact Nat.le_refl _)
        go_meet
        exact ⟨⟨_, _, rfl, row_bytes HO3.out rfl⟩, hB3⟩
    case rest =>
    obtain ⟨⟨p0, k0, rfl, hb0⟩, hB0⟩ := hcut
    have HB0 := hid hb0
    clear hb0 H3
    go_wp2_with fail
    refine (decode_any HB0.out (fun g hg => hg)).mono ?_
    intro e w1 hp1
    obtain ⟨hc1, p1, n1, c1, p2, n2, c2, rfl, hi1⟩ := hp1.img
    have HI1 := hid hi1
    clear hp1 hi1
    have hB1 := hB0.trans (hc1.mono hB0.size)
    go_upto_region 5 with fail
    have hB2 := hB1.alloc hB1.size (.cells #[.slice p1 n1 c1, .slice p2 n2 c2] 25)
    have hC2 := hc1.alloc hc1.size (.cells #[.slice p1 n1 c1, .slice p2 n2 c2] 25)
    have HN2 := hid (heap_alloc_new w1 (.cells #[.slice p1 n1 c1, .slice p2 n2 c2] 25))
    have HO2 := hid ((Below.refl w1.heap.size w1).alloc (Nat.le_refl _) (.cells #[.slice p1 n1 c1, .slice p2 n2 c2] 25))
    have HZ2 := hid (World.size_alloc w1 (.cells #[.slice p1 n1 c1, .slice p2 n2 c2] 25))
    generalize w1.alloc (.cells #[.slice p1 n1 c1, .slice p2 n2 c2] 25) = w2 at *
    have HVB2 := hid (HVB.out.frame (F' := fun g => g < w.heap.size) (w' := w2) (fun _ h => h) (fun g hg _ => hB2.block g hg))
    go_wp2_with fail
    refine (rdecode_any HVB2.out (fun g hg => by have := hB2.size; omega) (by omega)).mono ?_
    intro e w3 hp3
    rw [decodeR_eq nameOk_le] at hp3
    obtain ⟨hc3, p3, n3, c3, p4, n4, c4, rfl, hi3⟩ := hp3.img
    have HI3 := hid hi3
    clear hp3 hi3
    have hB3 := hB2.trans (hc3.mono hB2.size)
    have hC3 := hC2.trans (hc3.mono hC2.size)
    go_upto_region 6 with fail
    have hB4 := hB3.alloc hB3.size (.cells #[.slice p3 n3 c3, .slice p4 n4 c4] 25)
    have hC4 := hC3.alloc hC3.size (.cells #[.slice p3 n3 c3, .slice p4 n4 c4] 25)
    have hD4 := hc3.alloc hc3.size (.cells #[.slice p3 n3 c3, .slice p4 n4 c4] 25)
    have HN4 := hid (heap_alloc_new w3 (.cells #[.slice p3 n3 c3, .slice p4 n4 c4] 25))
    have HO4 := hid ((Below.refl w3.heap.size w3).alloc (Nat.le_refl _) (.cells #[.slice p3 n3 c3, .slice p4 n4 c4] 25))
    have HZ4 := hid (World.size_alloc w3 (.cells #[.slice p3 n3 c3, .slice p4 n4 c4] 25))
    generalize w3.alloc (.cells #[.slice p3 n3 c3, .slice p4 n4 c4] 25) = w4 at *
    go_wp2_with fail
    refine (AWK.out w4 hB4).mono ?_
    rintro e w5 ⟨rfl, hB5, hc5⟩
    have HE1 := hid (show ∀ g, g < w2.heap.size → w5.heap[g]? = w2.heap[g]? from fun g hg => (hc5.block g (Nat.lt_of_lt_of_le hg hD4.size)).trans (hD4.block g hg))
    have HE3 := hid (show ∀ g, g < w4.heap.size → w5.heap[g]? = w4.heap[g]? from fun g hg => hc5.block g hg)
    obtain ⟨q0, q1⟩ := twocells ((HE1.out w1.heap.size (by rw [HZ2.out]; omega)).trans HN2.out)
    obtain ⟨q2, q3⟩ := twocells ((HE3.out w3.heap.size (by rw [HZ4.out]; omega)).trans HN4.out)
    have HS5 := hid (Nat.le_trans hD4.size hc5.size)
    have HA5 := hid (HI1.out.frame (F' := fun g => g < w1.heap.size) (w' := w5) (fun _ h => h) (fun g hg _ => (HE1.out g (by rw [HZ2.out]; omega)).trans (HO2.out.block g hg)))
    have HB5 := hid (HI3.out.frame (F' := fun g => g < w3.heap.size) (w' := w5) (fun _ h => h) (fun g hg _ => (HE3.out g (by rw [HZ4.out]; omega)).trans (HO4.out.block g hg)))
    have HSC := hid hc5.size
    go_wp2_with (go_at_call 18; go_loud (refine (img_same HA5.out HB5.out (fun g hg => by have := HS5.out; rw [HZ2.out] at this; omega) (fun g hg => by have := HSC.out; rw [HZ4.out] at this; omega)).mono ?_; rintro e w6 ⟨⟨m6, rfl, hm6⟩, hc6⟩; obtain rfl : m6 = true := hm6.2 (ImgEq.refl _); have HB6 := hid (hB5.trans (hc6.mono hB5.size)); have cv1 := bytes_str (HB0.out.frame (F' := fun g => g < wc.heap.size) (w' := w6) (fun _ h => h) (fun g hg _ => (hc6.block g (by have := hC4.size; have := hc5.size; omega)).trans ((hc5.block g (by have := hC4.size; omega)).trans (hC4.block g hg)))).bytes; have cv2 := bytes_str (HVB.out.frame (F' := fun g => g < w.heap.size) (w' := w6) (fun _ h => h) (fun g hg _ => HB6.out.block g hg)).bytes; clear hm6 hc6 q0 q1 q2 q3))

    go_ret
    exact ⟨by first | rfl | simp, HB6.out⟩
end Go.Proofs.Ytdokeelodcckoaa.Im
