/-
  ImageSums returns true: its walk.
-/
import Derived.Test.YtdokeelodcckoaaImgAw
import Derived.Deep.DeepCutAuto
import Derived.Deep.RegionHeld3
import Derived.Deep.RegionWith
namespace Go.Proofs.Ytdokeelodcckoaa.Im
open Go.RowKit Go.Lib

/-- what Decode tells -/
def codeOf : Except Int Img → Int
  | .ok _ => 0
  | .error c => c
theorem DecPost.code {w w' : World} {r : Except Int Img} {e : Ending} (h : DecPost w r e w') : Below w.heap.size w w' ∧ ∃ p1 n1 c1 p2 n2 c2, e = .returned (.tuple #[.agg #[.slice p1 n1 c1, .slice p2 n2 c2], .int .i64 (codeOf r)]) := by
  refine ⟨h.1, ?_⟩
  have h2 := h.2
  cases r with
  | error c => exact ⟨_, _, _, _, _, _, h2⟩
  | ok y =>
    obtain ⟨a, b, he, hi, _⟩ := h2
    obtain ⟨x1, p1, rfl, _, _⟩ := hi.rules
    obtain ⟨x2, p2, rfl, _, _⟩ := hi.classes
    exact ⟨_, _, _, _, _, _, he⟩
theorem row_bytes {w : World} {base g cap n : Nat} {l : List B} (h : w.ownsRow base 5 1 (.slice (some ⟨g, 0, none⟩) n cap) n (l.map bV)) (hn : l.length = n) : BytesC (fun q => q < w.heap.size) w (.slice (some ⟨g, 0, none⟩) n cap) l := by
  subst hn
  exact (own_bytesC h).lt.frame (fun _ h => h.2) (fun _ _ _ => rfl)
theorem map_set' (l : List B) (n : Nat) (c : B) : (l.map bV).set n (bV c) = (l.set n c).map bV := by rw [List.map_set]
theorem enc_len {ok : List B → Bool} {x : Img} {a : List B} (h : encode ok x = (a, 0)) : a.length ≤ 1048585 := by
  obtain ⟨h1, h2, h3⟩ := encode_ok h
  rw [h3, List.length_append, headL_len]
  unfold most at h2
  omega
theorem swap_code {x : Img} {a : List B} (h : encode nameOk x = (a, 0)) {n : Nat} (h1 : 9 ≤ n) (h2 : n + 1 < a.length) : codeOf (decode nameOk ((a.set n a[n + 1]).set (n + 1) a[n])) = if a[n] = a[n + 1] then 0 else 5 := by
  by_cases e : a[n] = a[n + 1]
  · have : (a.set n a[n + 1]).set (n + 1) a[n] = a := by
      rw [← e, List.set_getElem_self, e, List.set_getElem_self]
    rw [if_pos e, this, decode_enc nameOk_le h]
    rfl
  · rw [if_neg e, swap_sum h h1 h2 e]
    rfl
set_option maxRecDepth 100000 in
set_option maxHeartbeats 4000000 in
theorem sums_walk {w : World} {a b : Value} {x : Img} (hx : ImgIn (fun g => g < w.heap.size) w a b x) (hr : ∀ r ∈ x.rules, RuleLens r) (z : Int) (c : B) :
    Calls Try.prog 6 #[.agg #[a, b], .int .i64 z, bV c] w (AwPost w) := by
  have HX := hid hx
  obtain ⟨ada, cpa, rfl, _, _⟩ := hx.rules
  obtain ⟨adb, cpb, rfl, _, _⟩ := hx.classes
  clear hx
  go_enter Try.func6, Try.ntmps6
  go_wp2_with fail
  generalize hW0 : w.alloc (.cells #[.slice ada x.rules.length cpa, .slice adb x.classes.length cpb] 25) = W0
  have hDb : W0.heap[w.heap.size]? = some (.cells #[.slice ada x.rules.length cpa, .slice adb x.classes.length cpb] 25 (0, 0)) := by rw [← hW0]; exact heap_alloc_new _ _
  have hz0 : W0.heap.size = w.heap.size + 1 := by rw [← hW0]; simp
  have hB0 : Below w.heap.size w W0 := by rw [← hW0]; exact (Below.refl _ _).alloc (Nat.le_refl _) _
  have HDB := hid hDb
  have HXB := hid (show ∀ W : World, Below W0.heap.size W0 W → ImgIn (fun g => g < w.heap.size) W (.slice ada x.rules.length cpa) (.slice adb x.classes.length cpb) x from fun W hW => HX.out.frame (fun _ h => h) (fun g hg _ => (hW.block g (by omega)).trans (hB0.block g hg)))
  clear hW0 hDb
  refine (few_any (HXB.out W0 (Below.refl _ _)) (fun g hg => by omega)).mono ?_
  rintro e w1 ⟨⟨m1, rfl, hm1⟩, hb1⟩
  have hB1 := hB0.trans (hb1.mono (by omega))
  obtain ⟨q0, q1⟩ := twocells ((hb1.block w.heap.size (by omega)).trans HDB.out)
  have hs1 := hb1.size
  cases m1
  · go_wp2
    go_ret
    exact ⟨rfl, hB1⟩
  · have HLN := hid (show ImgLens x from ⟨hr, fun c hc => Nat.le_trans (hm1 rfl c hc) (by omega)⟩)
    clear hm1 hr
    go_wp2_with fail
    refine (encode_any (HXB.out w1 hb1) (fun g hg => by omega) HLN.out).mono ?_
    rintro e w2 ⟨hb2, v, rfl, hv⟩
    have hB2 := hB1.trans (hb2.mono (by omega))
    have hs2 := hb2.size
    obtain ⟨al, ee, hen⟩ : ∃ al ee, encode nameOk x = (al, ee) := ⟨_, _, rfl⟩
    rw [hen] at hv ⊢
    dsimp only at hv ⊢
    have HV := hid hv.lt
    have HEN := hid hen
    obtain ⟨ad, cp, rfl, h1, h2, h3⟩ := hv
    unfold maxLen at h2
    have H3 := hid h3
    clear h3 hen
    have AWK := hid (show ∀ W : World, Below w.heap.size w W → Calls Try.prog 11 #[] W (fun e W' => e = .returned (.bool true) ∧ Below w.heap.size w W' ∧ Below W.heap.size W W') from fun W hW => (awake_any W).mono fun e W' h => ⟨h.1, hW.trans (h.2.mono hW.size), h.2⟩)
    by_cases he : ee = 0
    · subst he
      by_cases hz9 : z < 9
      · go_wp2_with fail
        refine (AWK.out w2 hB2).mono ?_
        rintro e w3 ⟨rfl, hb3, _⟩
        go_wp2
        go_ret
        exact ⟨rfl, hb3⟩
      · by_cases hzl : (al.length : Int) ≤ z
        · go_wp2_with fail
          refine (AWK.out w2 hB2).mono ?_
          rintro e w3 ⟨rfl, hb3, _⟩
          go_wp2
          go_ret
          exact ⟨rfl, hb3⟩
        · obtain ⟨n, rfl⟩ := Int.eq_ofNat_of_zero_le (show 0 ≤ z by omega)
          have hn9 : 9 ≤ n := by omega
          have hnl : n < al.length := by omega
          have hnl' : (n : Int) < al.length := by omega
          obtain ⟨ga, oa, rfl, hga, hca⟩ := H3.out (by intro e; rw [e] at hnl; simp at hnl)
          have hgl : ga < w2.heap.size := by
            obtain ⟨_, hc0, _⟩ := hca 0 (by omega)
            exact World.block_lt_of_cell? w2 _ hc0
          have HCA := hid (show ∀ W : World, Below w2.heap.size w2 W → ∀ i (hi : i < al.length), W.cell? ⟨ga, oa + i, none⟩ = some (bV al[i]) from fun W hW i hi => by
            obtain ⟨_, hc0, rfl⟩ := hca i hi
            exact (cell_heap (hW.block ga hgl)).trans hc0)
          clear hca H3
          obtain ⟨j0, hj, hy0, hy1, hy2⟩ := info_parts infoB
          have HJ := hid hj
          have HZJ := hid (And.intro hy0 (And.intro hy1 hy2))
          clear hj hy0 hy1 hy2
          go_upto_region 6 with fail
          have hown0 : (w2.alloc (.cells #[] 5)).ownsRow w2.heap.size 5 1 (.slice (some ⟨w2.heap.size, 0, none⟩) 0 0) 0 [] := ⟨rfl, .inr ⟨w2.heap.size, 0, #[], rfl, Nat.le_refl _, heap_alloc_new _ _, Nat.le_refl _, by simp, rfl, rfl⟩⟩
          have A1 := hid (show ∀ j u, (al.map bV)[j]? = some u → (w2.alloc (.cells #[] 5)).cell? ((⟨ga, oa, none⟩ : Addr).add j) = some u from fun j u hu => by
            rw [List.getElem?_map] at hu
            obtain ⟨y, hy, rfl⟩ := Option.map_eq_some_iff.1 hu
            obtain ⟨hj, rfl⟩ := List.getElem?_eq_some_iff.1 hy
            rw [Addr.add_lit]
            exact HCA.out _ ((Below.refl _ _).alloc (Nat.le_refl _) _) j hj)
          have A2 := hid (show ∀ u ∈ al.map bV, u.oneCell' = true from fun u hu => by obtain ⟨y, _, rfl⟩ := List.mem_map.1 hu; rfl)
          have A3 : 0 + al.length ≤ maxLen := by unfold maxLen; omega
          have A4 : (0 + al.length) * 1 ≤ 140737488355328 := by have := enc_len HEN.out; omega
          go_wp2_with (at_builtin; go_loud (refine wpList_append_lies rfl _ _ 26 rfl w2.heap.size 5 j0 _ 1 1 Try.underlying26 HJ.out HZJ.out.1 HZJ.out.2.1 HZJ.out.2.2 rfl Nat.one_pos _ 0 [] rfl hown0 ⟨ga, oa, none⟩ al.length cp (al.map bV) rfl (by simp) A1.out A2.out (by omega) A3 A4 (by rw [World.size_alloc]; omega) ?_; intro g3 cap3 w3 hown3 hgrow3 hat3 hlt3; rw [Nat.zero_add, List.nil_append] at hown3; obtain ⟨y3, q3⟩ := own_cell hown3 hnl; have f3 := own_free (i := n) hown3; have HOWN3 := hid hown3; have HGR3 := hid hgrow3; clear hown3 hgrow3 hat3 hlt3))
          have hg3 := own_ge HOWN3.out
          have hB3 : Below w2.heap.size w2 w3 := ((Below.refl _ w2).alloc (Nat.le_refl _) _).grown HGR3.out (by rw [World.size_alloc]; omega) (fun q hq => by cases hq; exact Nat.le_refl _)
          have HO4 := hid (show (w3.setCell ⟨g3, n, none⟩ (bV c)).ownsRow w2.heap.size 5 1 (.slice (some ⟨g3, 0, none⟩) al.length cap3) al.length ((al.set n c).map bV) by rw [← map_set']; exact own_store _ HOWN3.out)
          have hB4 : Below w2.heap.size w2 (w3.setCell ⟨g3, n, none⟩ (bV c)) := hB3.setCell hg3 _
          clear HOWN3 HGR3 hB3 q3 f3 A1 A2 hown0
          have HF4 : Hid (codeOf (decode nameOk (al.set n c)) = if c = al[n] then 0 else 5) := hid (by
            by_cases hc : c = al[n]
            · rw [if_pos hc, hc, List.set_getElem_self, decode_enc nameOk_le HEN.out]; rfl
            · rw [if_neg hc, set_sum HEN.out hn9 hnl hc]; rfl)
          refine (decode_any (row_bytes HO4.out (by simp)) (fun g hg => hg)).mono ?_
          intro e w5 hp5
          obtain ⟨hb5, p1, n1, c1, p2, n2, c2, rfl⟩ := hp5.code
          rw [HF4.out]
          have HO5 := hid (own_below HO4.out hb5 (Nat.le_refl _))
          have hB5 := hB4.trans (hb5.mono hB4.size)
          clear HO4 hb5 hp5 HF4
          go_upto_region 9 with fail
          have hB6 := hB5.alloc hB5.size (.cells #[.slice p1 n1 c1, .slice p2 n2 c2] 25)
          have HO6 := hid (HO5.out.alloc (.cells #[.slice p1 n1 c1, .slice p2 n2 c2] 25))
          clear HO5 hB5 hB4
          generalize w5.alloc (.cells #[.slice p1 n1 c1, .slice p2 n2 c2] 25) = w6 at *
          go_cut [11, 65] (fun u v wx => (∃ f : Int, u = .int .i64 f) ∧ v = .bool false ∧ w6 = wx)
          case first =>
            have ca := HCA.out w6 hB6 n hnl
            by_cases hc : c = al[n]
            · rw [if_pos hc]
              have hc' : (c.toNat : Int) = (al[n].toNat : Int) := by rw [hc]
              clear hc
              go_wp2_with fail
              go_meet
              exact ⟨⟨_, rfl⟩, rfl, rfl⟩
            · rw [if_neg hc]
              have hc' : ¬ (c.toNat : Int) = (al[n].toNat : Int) := fun e => hc (UInt8.toNat_inj.1 (by omega))
              have hcb : (((c.toNat : Nat) : Int) == ((al[n].toNat : Nat) : Int)) = false := beq_eq_false_iff_ne.2 hc'
              have HCB := hid hcb
              clear hc
              go_wp2_with fail
              go_meet
              exact ⟨⟨_, rfl⟩, by first | rfl | rw [HCB.out], rfl⟩
          case rest =>
          obtain ⟨⟨f5, rfl⟩, rfl, rfl⟩ := hcut
          have hs6 := hB6.size
          have HBT := hid (show BytesC (fun q => q < w6.heap.size) w6 (.slice (some ⟨ga, oa, none⟩) n cp) (al.take n) from ⟨_, cp, by rw [List.length_take, Nat.min_eq_left (by omega)], by rw [List.length_take]; omega, by unfold maxLen; omega, fun _ => ⟨ga, oa, rfl, by omega, fun i hi => ⟨_, HCA.out w6 hB6 i (by rw [List.length_take] at hi; omega), by rw [List.getElem_take]⟩⟩⟩)
          go_wp2_with fail
          refine (decode_any HBT.out (fun g hg => hg)).mono ?_
          intro e w7 hp7
          obtain ⟨hb7, p3, n3, c3, p4, n4, c4, rfl⟩ := hp7.code
          rw [begins_more HEN.out hn9 hnl]
          have HO7 := hid (own_below HO6.out hb7 (Nat.le_refl _))
          have hB7 := hB6.trans (hb7.mono hB6.size)
          clear HO6 hb7 hp7 HBT hB6
          go_upto_region 12 with fail
          have hB8 := hB7.alloc hB7.size (.cells #[.slice p3 n3 c3, .slice p4 n4 c4] 25)
          have HO8 := hid (HO7.out.alloc (.cells #[.slice p3 n3 c3, .slice p4 n4 c4] 25))
          clear HO7 hB7
          generalize w7.alloc (.cells #[.slice p3 n3 c3, .slice p4 n4 c4] 25) = w8 at *
          have hB8w := hB2.trans (hB8.mono (by have := hB2.size; omega))
          by_cases hend : al.length ≤ n + 1
          · have hend' : (al.length : Int) ≤ (n : Int) + 1 := by omega
            go_wp2_with fail
            refine (AWK.out w8 hB8w).mono ?_
            rintro e w9 ⟨rfl, hb9, _⟩
            go_wp2
            go_ret
            exact ⟨rfl, hb9⟩
          · have hend' : ¬ (al.length : Int) ≤ (n : Int) + 1 := by omega
            have hnl1 : n + 1 < al.length := by omega
            have k0 := HCA.out w8 hB8 n hnl
            have k1 := HCA.out w8 hB8 (n + 1) hnl1
            have k2 := k1
            rw [← Nat.add_assoc] at k2
            have hnl1' : (n : Int) + 1 < al.length := by omega
            obtain ⟨y8, q8⟩ := own_cell HO8.out hnl
            have f8 := own_free (i := n) HO8.out
            go_upto_region 15 with fail
            have HO9 := hid (show (w8.setCell ⟨g3, n, none⟩ (bV al[n + 1])).ownsRow w2.heap.size 5 1 (.slice (some ⟨g3, 0, none⟩) al.length cap3) al.length ((al.set n al[n + 1]).map bV) by
              have h := own_store (i := n) (bV al[n + 1]) HO8.out
              rwa [map_set', List.set_set] at h)
            have hB9 := hB8.setCell (p := ⟨g3, n, none⟩) hg3 (bV al[n + 1])
            have e9 : w8.setCell ⟨g3, n, none⟩ (.int .u8 (al[n + 1].toNat : Nat)) = w8.setCell ⟨g3, n, none⟩ (bV al[n + 1]) := rfl
            rw [e9]
            clear e9 k0 k1 k2 q8 f8 HO8 hB8 hB8w
            generalize w8.setCell ⟨g3, n, none⟩ (bV al[n + 1]) = w9 at *
            have k0 := HCA.out w9 hB9 n hnl
            obtain ⟨y9, q9⟩ := own_cell HO9.out hnl1
            have f9 := own_free (i := n + 1) HO9.out
            go_upto_region 16 with fail
            have HO10 := hid (show (w9.setCell ⟨g3, n + 1, none⟩ (bV al[n])).ownsRow w2.heap.size 5 1 (.slice (some ⟨g3, 0, none⟩) al.length cap3) al.length (((al.set n al[n + 1]).set (n + 1) al[n]).map bV) by
              have h := own_store (i := n + 1) (bV al[n]) HO9.out
              rwa [map_set'] at h)
            have hB10 := hB9.setCell (p := ⟨g3, n + 1, none⟩) hg3 (bV al[n])
            have e10 : w9.setCell ⟨g3, n + 1, none⟩ (.int .u8 (al[n].toNat : Nat)) = w9.setCell ⟨g3, n + 1, none⟩ (bV al[n]) := rfl
            rw [e10]
            clear e10 k0 q9 f9 HO9 hB9
            generalize w9.setCell ⟨g3, n + 1, none⟩ (bV al[n]) = w10 at *
            go_wp2_with fail
            refine (decode_any (row_bytes HO10.out (by simp)) (fun g hg => hg)).mono ?_
            intro e w11 hp11
            obtain ⟨hb11, p5, n5, c5, p6, n6, c6, rfl⟩ := hp11.code
            rw [swap_code HEN.out hn9 hnl1]
            have hB11 := hB10.trans (hb11.mono hB10.size)
            clear HO10 hb11 hp11 hB10
            go_upto_region 17 with fail
            have hB12 := hB11.alloc hB11.size (.cells #[.slice p5 n5 c5, .slice p6 n6 c6] 25)
            clear hB11
            generalize w11.alloc (.cells #[.slice p5 n5 c5, .slice p6 n6 c6] 25) = w12 at *
            have k0 := HCA.out w12 hB12 n hnl
            have k1 := HCA.out w12 hB12 (n + 1) hnl1
            have k2 := k1
            rw [← Nat.add_assoc] at k2
            have hB12w := hB2.trans (hB12.mono (by have := hB2.size; omega))
            have h01 : (0 : Int) ≤ (n : Int) + 1 := by omega
            have hwr : IntKind.i64.wrap ((n : Int) + 1) = (n : Int) + 1 := by rw [IntKind.wrap_i64]; omega
            by_cases heq : al[n] = al[n + 1]
            · rw [if_pos heq]
              have HEQ := hid (show (((al[n].toNat : Nat) : Int) == ((al[n + 1].toNat : Nat) : Int)) = true by rw [heq]; simp)
              have heqb := HEQ.out
              clear heq
              go_region_held3 (fun W => W.cell? ⟨ga, oa + n, none⟩ = some (bV al[n]) ∧ W.cell? ⟨ga, oa + (n + 1), none⟩ = some (bV al[n + 1])) (first | exact ⟨k0, k1⟩ | exact ⟨k3, k5⟩) (first | (go_at_call 11; refine (AWK.out _ hB12w.drew).mono ?_; rintro e w13 ⟨rfl, hb13, hbb⟩; have HB13 := hid hb13; have k3 := HCA.out w13 (hB12.drew.trans (hbb.mono hB12.size)) n hnl; have k5 := HCA.out w13 (hB12.drew.trans (hbb.mono hB12.size)) (n + 1) hnl1))
              all_goals
                go_wp2
                go_ret
                exact ⟨by first | rfl | (simp [HEQ.out]), HB13.out⟩
            · rw [if_neg heq]
              have HEQ := hid (show (((al[n].toNat : Nat) : Int) == ((al[n + 1].toNat : Nat) : Int)) = false from beq_eq_false_iff_ne.2 (fun e => heq (UInt8.toNat_inj.1 (by omega))))
              have heqb := HEQ.out
              clear heq
              go_region_held3 (fun W => W.cell? ⟨ga, oa + n, none⟩ = some (bV al[n]) ∧ W.cell? ⟨ga, oa + (n + 1), none⟩ = some (bV al[n + 1])) (first | exact ⟨k0, k1⟩ | exact ⟨k3, k5⟩) (first | (go_at_call 11; refine (AWK.out _ hB12w.drew).mono ?_; rintro e w13 ⟨rfl, hb13, hbb⟩; have HB13 := hid hb13; have k3 := HCA.out w13 (hB12.drew.trans (hbb.mono hB12.size)) n hnl; have k5 := HCA.out w13 (hB12.drew.trans (hbb.mono hB12.size)) (n + 1) hnl1))
              all_goals
                go_wp2
                go_ret
                exact ⟨by first | rfl | (simp [HEQ.out]), HB13.out⟩
    · go_wp2_with fail
      refine (AWK.out w2 hB2).mono ?_
      rintro e w3 ⟨rfl, hb3, _⟩
      go_wp2
      go_ret
      exact ⟨rfl, hb3⟩
end Go.Proofs.Ytdokeelodcckoaa.Im
