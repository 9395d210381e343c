/-
  ImageBack returns true: its walk.
-/
import Derived.Test.YtdokeelodcckoaaImgSm
namespace Go.Proofs.Ytdokeelodcckoaa.Im
open Go.RowKit Go.Lib

theorem dec_err {ok : List B → Bool} {b : List B} {c : Int} (h : decode ok b = .error c) : c ≠ 0 := by
  unfold decode at h
  split at h
  · cases h; decide
  · split at h
    · cases h; decide
    · split at h
      · cases h; decide
      · split at h
        · cases h; decide
        · split at h
          · cases h; decide
          · simp only at h
            split at h
            · cases h; decide
            · split at h
              · cases h; decide
              · cases h
theorem enc_ge {ok : List B → Bool} {x : Img} {a : List B} (h : encode ok x = (a, 0)) : 10 ≤ a.length := by
  obtain ⟨h1, h2, h3⟩ := encode_ok h
  rw [h3, List.length_append, headL_len]
  unfold eImg eNum
  simp
  omega

theorem one_at_new (w : World) (c : B) (T : TypeId) : ∀ j u, [bV c][j]? = some u → (w.alloc (.cells #[bV c] T)).cell? ((⟨w.heap.size, 0, none⟩ : Addr).add j) = some u := by
  intro j u hu
  cases j with
  | succ j => simp at hu
  | zero =>
    simp at hu
    subst hu
    rw [Addr.add_lit]
    exact cell_blk (heap_alloc_new _ _) rfl
theorem one_one_new (c : B) : ∀ u ∈ [bV c], u.oneCell' = true := by
  intro u hu
  simp at hu
  subst hu
  rfl

set_option maxRecDepth 100000 in
set_option maxHeartbeats 8000000 in
theorem back_walk {w : World} {a b vb : Value} {x : Img} {bl : List B} (hx : ImgIn (fun g => g < w.heap.size) w a b x) (hrx : ∀ r ∈ x.rules, RuleLens r) (hvb : BytesC (fun g => g < w.heap.size) w vb bl) (c : B) :
    Calls Try.prog 5 #[.agg #[a, b], vb, bV c] w (AwPost w) := by
  have HX := hid hx
  obtain ⟨ada, cpa, rfl, _, _⟩ := hx.rules
  obtain ⟨adb, cpb, rfl, _, _⟩ := hx.classes
  have HVB := hid hvb
  obtain ⟨pb, nb, rfl, hvb1, hvb2, _⟩ := hvb
  unfold maxLen at hvb2
  clear hx
  have HRX := hid hrx
  clear hrx
  go_enter Try.func5, Try.ntmps5
  go_wp2_with fail
  generalize hW0 : w.alloc (.cells #[.slice ada x.rules.length cpa, .slice adb x.classes.length cpb] 25) = W0
  have HDB := hid (show W0.heap[w.heap.size]? = some (.cells #[.slice ada x.rules.length cpa, .slice adb x.classes.length cpb] 25 (0, 0)) by rw [← hW0]; exact heap_alloc_new _ _)
  have hz0 : W0.heap.size = w.heap.size + 1 := by rw [← hW0]; simp
  have hB0 : Below w.heap.size w W0 := by rw [← hW0]; exact (Below.refl _ _).alloc (Nat.le_refl _) _
  have HXB := hid (show ∀ W : World, Below W0.heap.size W0 W → ImgIn (fun g => g < w.heap.size) W (.slice ada x.rules.length cpa) (.slice adb x.classes.length cpb) x from fun W hW => HX.out.frame (fun _ h => h) (fun g hg _ => (hW.block g (by omega)).trans (hB0.block g hg)))
  have HBB := hid (show ∀ W : World, Below W0.heap.size W0 W → BytesC (fun g => g < w.heap.size) W (.slice pb bl.length nb) bl from fun W hW => HVB.out.frame (fun _ h => h) (fun g hg _ => (hW.block g (by omega)).trans (hB0.block g hg)))
  have CX := hid (show ∀ W : World, Below W0.heap.size W0 W → (W.cell? ⟨w.heap.size, 0, none⟩ = some (.slice ada x.rules.length cpa) ∧ W.cell? ⟨w.heap.size, 1, none⟩ = some (.slice adb x.classes.length cpb)) from fun W hW => twocells ((hW.block _ (by omega)).trans HDB.out))
  have FW := hid (show ∀ W : World, Below W0.heap.size W0 W → ∀ g, g < w.heap.size → g < W.heap.size from fun W hW g hg => by have := hW.size; omega)
  clear hW0
  refine (few_any (HXB.out W0 (Below.refl _ _)) (FW.out W0 (Below.refl _ _))).mono ?_
  rintro e w1 ⟨⟨m1, rfl, hm1⟩, hb1⟩
  have hB1 := hB0.trans (hb1.mono (by omega))
  cases m1
  · go_wp2
    go_ret
    exact ⟨rfl, hB1⟩
  · have HLX := hid (show ImgLens x from ⟨HRX.out, fun c hc => Nat.le_trans (hm1 rfl c hc) (by omega)⟩)
    clear hm1
    by_cases h6 : 60000 < bl.length
    · have h6' : (60000 : Int) < bl.length := by omega
      go_wp2
      go_ret
      exact ⟨rfl, hB1⟩
    · have h6' : ¬ (60000 : Int) < bl.length := by omega
      have AWK := hid (show ∀ W : World, Below w.heap.size w W → Calls Try.prog 11 #[] W (fun e W' => e = .returned (.bool true) ∧ Below w.heap.size w W' ∧ Below W.heap.size W W') from fun W hW => (awake_any W).mono fun e W' h => ⟨h.1, hW.trans (h.2.mono hW.size), h.2⟩)
      go_wp2_with fail
      refine (decode_any (HBB.out w1 hb1) (FW.out w1 hb1)).mono ?_
      intro e w2 hp2
      have hc2 := hp2.1
      have hb2 := hb1.trans (hc2.mono hb1.size)
      obtain ⟨_, p1, n1, c1, p2, n2, c2, rfl⟩ := hp2.code
      have HP := hid hp2.2
      clear hp2
      go_upto_if 33 with fail
      have hb3 := hb2.alloc (by have := hb2.size; omega) (.cells #[.slice p1 n1 c1, .slice p2 n2 c2] 25)
      have HN3 := hid (show (w2.alloc (.cells #[.slice p1 n1 c1, .slice p2 n2 c2] 25)).heap[w2.heap.size]? = some (.cells #[.slice p1 n1 c1, .slice p2 n2 c2] 25 (0, 0)) from heap_alloc_new _ _)
      have HO3 := hid (show ∀ g, g < w2.heap.size → (w2.alloc (.cells #[.slice p1 n1 c1, .slice p2 n2 c2] 25)).heap[g]? = w2.heap[g]? from fun g hg => alloc_old hg)
      have hz3 : w2.heap.size < (w2.alloc (.cells #[.slice p1 n1 c1, .slice p2 n2 c2] 25)).heap.size := by rw [World.size_alloc]; omega
      generalize w2.alloc (.cells #[.slice p1 n1 c1, .slice p2 n2 c2] 25) = w3 at *
      go_cut [8] (fun v wx => (∃ f : Int, v = .int .i64 f) ∧ Below w3.heap.size w3 wx)
      case first =>
        rcases hdec : decode nameOk bl with c0 | y
        · have hc0 := dec_err hdec
          simp only [codeOf]
          clear hdec
          go_wp2_with fail
          go_meet
          exact ⟨⟨_, rfl⟩, Below.refl _ _⟩
        · have HBK := hid (decode_back hdec)
          have h := HP.out
          rw [hdec] at h
          obtain ⟨a', b', he, hi, hl⟩ := h
          cases he
          have HI3 := hid (hi.lt.frame (F' := fun g => g < w2.heap.size) (w' := w3) (fun g hg => hg.2) (fun g hg _ => HO3.out g hg.2))
          have HLY := hid hl
          clear hi hl hdec
          simp only [codeOf]
          obtain ⟨q0, q1⟩ := twocells HN3.out
          go_wp2_with fail
          refine (encode_any HI3.out (fun g hg => by omega) HLY.out).mono ?_
          rintro e w4 ⟨hc4, v4, rfl, hv4⟩
          rw [HBK.out] at hv4 ⊢
          dsimp only at hv4 ⊢
          have hb4 := hb3.trans (hc4.mono hb3.size)
          have cv1 := bytes_str hv4.bytes
          have cv2 := bytes_str (HBB.out w4 hb4).bytes
          obtain ⟨p4, k4, rfl, _, _, _⟩ := hv4
          have hbb : (bl != bl) = false := by simp
          obtain ⟨q4, q5⟩ := twocells ((hc4.block _ hz3).trans HN3.out)
          have HI4 := hid (HI3.out.frame (F' := fun g => g < w2.heap.size) (w' := w4) (fun _ h => h) (fun g hg _ => hc4.block g (by omega)))
          have hok := (encode_ok HBK.out).1
          have HOK := hid hok
          clear hok q0 q1
          go_wp2_with (go_at_call 12; refine (imgCheck_any HI4.out (fun g hg => by have := hc4.size; omega) HLY.out).mono ?_; rw [HOK.out]; rintro e w5 ⟨rfl, hc5⟩; have HC5 := hid hc5)
          go_meet
          exact ⟨⟨_, rfl⟩, hc4.trans (HC5.out.mono hc4.size)⟩
      case rest =>
      obtain ⟨⟨f8, rfl⟩, hcx⟩ := hcut
      have hb5 := hb3.trans (hcx.mono hb3.size)
      clear HP HN3 HO3 hz3
      obtain ⟨q0, q1⟩ := CX.out _ hb5
      go_wp2_with fail
      refine (encode_any (HXB.out _ hb5) (FW.out _ hb5) HLX.out).mono ?_
      rintro e w6 ⟨hc6, va, rfl, hva⟩
      have hb6 := hb5.trans (hc6.mono hb5.size)
      have hB6 := hB0.trans (hb6.mono (by omega))
      clear q0 q1
      obtain ⟨al, ee, hen⟩ : ∃ al ee, encode nameOk x = (al, ee) := ⟨_, _, rfl⟩
      rw [hen] at hva ⊢
      dsimp only at hva ⊢
      have HEN := hid hen
      have HVA := hid (hva.lt.frame (F' := fun q => q < w6.heap.size) (fun _ h => h.2) (fun _ _ _ => rfl))
      obtain ⟨pa, na, rfl, ha1, ha2, _⟩ := hva
      unfold maxLen at ha2
      clear hen
      by_cases he : ee = 0
      · subst he
        have hal10 := enc_ge HEN.out
        go_wp2_with fail
        refine (decode_any HVA.out (fun g hg => hg)).mono ?_
        rintro e w7 ⟨hc7, hp7⟩
        rw [decode_enc nameOk_le HEN.out] at hp7
        obtain ⟨z1, z2, rfl, hzi, _⟩ := hp7
        obtain ⟨pz1, nz1, rfl, _, _⟩ := hzi.rules
        obtain ⟨pz2, nz2, rfl, _, _⟩ := hzi.classes
        have hb7 := hb6.trans (hc7.mono hb6.size)
        go_upto_region 12 with fail
        have hb8 := hb7.alloc (by have := hb7.size; omega) (.cells #[.slice pz1 x.rules.length nz1, .slice pz2 x.classes.length nz2] 25)
        have hn8 := heap_alloc_new w7 (.cells #[.slice pz1 x.rules.length nz1, .slice pz2 x.classes.length nz2] 25)
        have HZ8 := hid (hzi.lt.frame (F' := fun g => g < w7.heap.size) (w' := w7.alloc (.cells #[.slice pz1 x.rules.length nz1, .slice pz2 x.classes.length nz2] 25)) (fun g hg => hg.2) (fun g hg _ => alloc_old hg.2))
        have hz8 : (w7.alloc (.cells #[.slice pz1 x.rules.length nz1, .slice pz2 x.classes.length nz2] 25)).heap.size = w7.heap.size + 1 := World.size_alloc ..
        have hV8 := (hc7.alloc hc7.size (.cells #[.slice pz1 x.rules.length nz1, .slice pz2 x.classes.length nz2] 25))
        generalize w7.alloc (.cells #[.slice pz1 x.rules.length nz1, .slice pz2 x.classes.length nz2] 25) = w8 at *
        clear hzi
        obtain ⟨q0, q1⟩ := CX.out w8 hb8
        obtain ⟨q2, q3⟩ := twocells hn8
        have hal9 : ¬ (al.length : Int) < 9 := by omega
        have HZS := hid hz8
        clear hz8
        go_wp2_with fail
        refine (img_same HZ8.out (HXB.out w8 hb8) (fun g hg => by have := HZS.out; omega) (FW.out w8 hb8)).mono ?_
        rintro e w9 ⟨⟨m9, rfl, hm9⟩, hc9⟩
        obtain rfl : m9 = true := hm9.2 (ImgEq.refl x)
        have hb9 := hb8.trans (hc9.mono hb8.size)
        have hV9 := hV8.trans (hc9.mono hV8.size)
        clear hm9 q0 q1 q2 q3 hn8
        obtain ⟨_, _, ev, _, _, hrow⟩ := HVA.out
        cases ev
        obtain ⟨ga, oa, rfl, hga, hca⟩ := hrow (by intro e; rw [e] at hal10; simp at hal10)
        have HCA := hid (show ∀ W : World, Below w6.heap.size w6 W → ∀ i (hi : i < al.length), W.cell? ⟨ga, oa + i, none⟩ = some (bV al[i]) from fun W hW i hi => by
          obtain ⟨_, hc0, rfl⟩ := hca i hi
          exact (cell_heap (hW.block ga hga)).trans hc0)
        clear hca hrow
        obtain ⟨n, hn⟩ : ∃ n, al.length = n + 1 := ⟨al.length - 1, by omega⟩
        have HN := hid hn
        have hsub : (al.length : Int) - 1 = (n : Int) := by omega
        have hnn : (n : Int) ≤ (na : Int) := by omega
        have hn9 : 9 ≤ n := by omega
        have hnl : n < al.length := by omega
        have HSUB := hid hsub
        clear hn hsub
        have hwr : IntKind.i64.wrap ((al.length : Int) - 1) = (al.length : Int) - 1 := by rw [IntKind.wrap_i64]; omega
        have h0n : (0 : Int) ≤ (al.length : Int) - 1 := by omega
        have h1n : (al.length : Int) - 1 ≤ (na : Int) := by omega
        go_upto_region 14 with fail
        have HBT := hid (show BytesC (fun q => q < w9.heap.size) w9 (.slice (some ⟨ga, oa, none⟩) n na) (al.take n) from ⟨_, na, by rw [List.length_take, Nat.min_eq_left (by omega)], by rw [List.length_take]; omega, by unfold maxLen; omega, fun _ => ⟨ga, oa, rfl, Nat.lt_of_lt_of_le hga hV9.size, fun i hi => ⟨_, HCA.out w9 hV9 i (by rw [List.length_take] at hi; omega), by rw [List.getElem_take]⟩⟩⟩)
        go_wp2_with fail
        rw [show al.length - 1 = n by have := HN.out; omega]
        refine (decode_any HBT.out (fun g hg => hg)).mono ?_
        intro e w10 hp10
        obtain ⟨hc10, p3, n3, c3, p4, n4, c4, rfl⟩ := hp10.code
        rw [begins_more HEN.out hn9 hnl]
        have hb10 := hb9.trans (hc10.mono hb9.size)
        have hV10 := hV9.trans (hc10.mono hV9.size)
        clear hp10 HBT
        obtain ⟨j0, hj, hy0, hy1, hy2⟩ := info_parts infoB
        have HJ := hid hj
        have HZJ := hid (And.intro hy0 (And.intro hy1 hy2))
        clear hj hy0 hy1 hy2
        go_upto_region 15 with fail
        have hb11 := hb10.alloc (by have := hb10.size; omega) (.cells #[.slice p3 n3 c3, .slice p4 n4 c4] 25)
        have hV11 := hV10.alloc hV10.size (.cells #[.slice p3 n3 c3, .slice p4 n4 c4] 25)
        generalize w10.alloc (.cells #[.slice p3 n3 c3, .slice p4 n4 c4] 25) = w11 at *
        have hown0 : (w11.alloc (.cells #[] 5)).ownsRow w11.heap.size 5 1 (.slice (some ⟨w11.heap.size, 0, none⟩) 0 0) 0 [] := ⟨rfl, .inr ⟨w11.heap.size, 0, #[], rfl, Nat.le_refl _, heap_alloc_new _ _, Nat.le_refl _, by simp, rfl, rfl⟩⟩
        have A1 := hid (show ∀ j u, (al.map bV)[j]? = some u → (w11.alloc (.cells #[] 5)).cell? ((⟨ga, oa, none⟩ : Addr).add j) = some u from fun j u hu => by
          rw [List.getElem?_map] at hu
          obtain ⟨y, hy, rfl⟩ := Option.map_eq_some_iff.1 hu
          obtain ⟨hj, rfl⟩ := List.getElem?_eq_some_iff.1 hy
          rw [Addr.add_lit]
          exact HCA.out _ (hV11.alloc hV11.size _) j hj)
        have A2 := hid (show ∀ u ∈ al.map bV, u.oneCell' = true from fun u hu => by obtain ⟨y, _, rfl⟩ := List.mem_map.1 hu; rfl)
        have hlong := enc_len HEN.out
        have A3 : 0 + al.length ≤ maxLen := by unfold maxLen; omega
        have A4 : (0 + al.length) * 1 ≤ 140737488355328 := by omega
        have B3 : al.length + 1 ≤ maxLen := by unfold maxLen; omega
        have B4 : (al.length + 1) * 1 ≤ 140737488355328 := by omega
        go_wp2_with (first | (at_builtin; refine wpList_append_lies rfl _ _ 26 rfl w11.heap.size 5 j0 _ 1 1 Try.underlying26 HJ.out HZJ.out.1 HZJ.out.2.1 HZJ.out.2.2 rfl Nat.one_pos _ al.length (al.map bV) rfl (HO12.out.alloc _) ⟨w12.heap.size, 0, none⟩ 1 1 [bV c] rfl rfl (one_at_new _ _ _) (one_one_new c) Nat.one_pos B3 B4 (by rw [World.size_alloc]; have := hs12.out; omega) ?_; intro g13 cap13 w13 hown13 hgrow13 hat13 hlt13; have HO13 := hid hown13; have HG13 := hid hgrow13; clear hown13 hgrow13 hat13 hlt13) | (at_builtin; refine wpList_append_lies rfl _ _ 26 rfl w11.heap.size 5 j0 _ 1 1 Try.underlying26 HJ.out HZJ.out.1 HZJ.out.2.1 HZJ.out.2.2 rfl Nat.one_pos _ 0 [] rfl hown0 ⟨ga, oa, none⟩ al.length na (al.map bV) rfl (by simp) A1.out A2.out (by omega) A3 A4 (by rw [World.size_alloc]; omega) ?_; intro g12 cap12 w12 hown12 hgrow12 hat12 hlt12; rw [Nat.zero_add, List.nil_append] at hown12; have HO12 := hid hown12; have HG12 := hid hgrow12; have hs12 := hid (show w11.heap.size ≤ w12.heap.size by have := own_ge HO12.out; have := hlt12; omega); clear hown12 hgrow12 hat12 hlt12))
        have hg12 := own_ge HO12.out
        have hB12 : Below w11.heap.size w11 w12 := ((Below.refl _ w11).alloc (Nat.le_refl _) _).grown HG12.out (by rw [World.size_alloc]; omega) (fun q hq => by cases hq; exact Nat.le_refl _)
        have hB13 : Below w11.heap.size w11 w13 := (hB12.alloc hB12.size _).grown HG13.out (by have := hB12.size; rw [World.size_alloc]; omega) (fun q hq => by cases hq; exact hg12)
        have hb13 := hb11.trans (hB13.mono hb11.size)
        have HR13 := hid (row_bytes (l := al ++ [c]) (by have := HO13.out; rw [show (al ++ [c]).map bV = al.map bV ++ [bV c] by simp]; exact this) (by simp))
        clear HO13 HG13 HO12 HG12 hB12 hB13 A1 A2 hown0 hs12
        refine (decode_any HR13.out (fun g hg => hg)).mono ?_
        intro e w14 hp14
        obtain ⟨hc14, p5, n5, c5, p6, n6, c6, rfl⟩ := hp14.code
        rw [longer_form HEN.out c]
        simp only [codeOf]
        have hb14 := hb13.trans (hc14.mono hb13.size)
        clear hp14 HR13
        go_upto_region 16 with fail
        have hb15 := hb14.alloc (by have := hb14.size; omega) (.cells #[.slice p5 n5 c5, .slice p6 n6 c6] 25)
        generalize w14.alloc (.cells #[.slice p5 n5 c5, .slice p6 n6 c6] 25) = w15 at *
        have hB15 := hB0.trans (hb15.mono (by omega))
        go_wp2_with fail
        refine (AWK.out w15 hB15).mono ?_
        rintro e w16 ⟨rfl, hb16, _⟩
        go_wp2
        go_ret
        exact ⟨rfl, hb16⟩
      · obtain rfl : al = [] := enc_none HEN.out he
        go_wp2_with fail
        refine (AWK.out w6 hB6).mono ?_
        rintro e w7 ⟨rfl, hb7, _⟩
        go_wp2
        go_ret
        exact ⟨by first | rfl | simp, hb7⟩
end Go.Proofs.Ytdokeelodcckoaa.Im
