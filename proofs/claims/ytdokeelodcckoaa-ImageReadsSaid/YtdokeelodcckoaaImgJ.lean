/-
  The contracts of image.Sum and image.Encode.
-/
import Derived.Test.YtdokeelodcckoaaImgI
namespace Go.Proofs.Ytdokeelodcckoaa.Im
open Go.RowKit Go.Lib

abbrev ByteR (c : Value) (x : B) : Prop := c = bV x
abbrev BytesIn (F : Nat → Prop) (w : World) : Value → List B → Prop := Row F w ByteR
theorem BytesIn.frame {F F' : Nat → Prop} {w w' : World} {v : Value} {l : List B} (h : BytesIn F w v l) (hF : ∀ g, F g → F' g) (hw : ∀ g, F g → g < w.heap.size → w'.heap[g]? = w.heap[g]?) : BytesIn F' w' v l := Row.frame h hF hw fun _ _ _ h => h
/-- bytes in a slice of which the capacity is known to fit -/
def BytesC (F : Nat → Prop) (w : World) (v : Value) (l : List B) : Prop := ∃ ad cap, v = .slice ad l.length cap ∧ l.length ≤ cap ∧ cap ≤ maxLen ∧ RowAt F w ByteR ad l
theorem BytesC.bytes {F : Nat → Prop} {w : World} {v : Value} {l : List B} (h : BytesC F w v l) : BytesIn F w v l := by
  obtain ⟨ad, cap, h1, h2, h3, h4⟩ := h
  exact ⟨ad, cap, h1, Nat.le_trans h2 h3, h4⟩
theorem BytesC.frame {F F' : Nat → Prop} {w w' : World} {v : Value} {l : List B} (h : BytesC F w v l) (hF : ∀ g, F g → F' g) (hw : ∀ g, F g → g < w.heap.size → w'.heap[g]? = w.heap[g]?) : BytesC F' w' v l := by
  obtain ⟨ad, cap, h1, h2, h3, h4⟩ := h
  exact ⟨ad, cap, h1, h2, h3, h4.frame hF hw fun _ _ _ h => h⟩
theorem sumL_snoc (l : List B) (k : Nat) (h : k < l.length) : sumL (l.take (k + 1)) = (31 * sumL (l.take k) + l[k].toNat + 1) % 65521 := by
  rw [take_succ' _ _ h]; unfold sumL; rw [List.foldl_append]; rfl
theorem own_bytes {w : World} {base : Nat} {v : Value} {l : List B} (h : w.ownsRow base 5 1 v l.length (l.map bV)) : BytesIn (fun g => base ≤ g) w v l := by
  rcases h.2 with ⟨hv, h0⟩ | ⟨g, cap, cur, hv, hb, hg, hn, hc, hs, ht⟩
  · have : l = [] := List.eq_nil_of_length_eq_zero h0
    subst this
    exact ⟨none, 0, hv, by simp, fun h => absurd rfl h⟩
  · refine ⟨_, _, hv, Nat.le_trans hn hc, fun _ => ⟨g, 0, rfl, hb, fun i hi => ⟨bV l[i], ?_, rfl⟩⟩⟩
    subst hv
    rw [Nat.zero_add, h.cellAt i (by omega), List.getElem?_map, List.getElem?_eq_getElem hi]
    rfl

theorem own_bytesC {w : World} {base : Nat} {v : Value} {l : List B} (h : w.ownsRow base 5 1 v l.length (l.map bV)) : BytesC (fun g => base ≤ g) w v l := by
  rcases h.2 with ⟨hv, h0⟩ | ⟨g, cap, cur, hv, hb, hg, hn, hc, hs, ht⟩
  · have : l = [] := List.eq_nil_of_length_eq_zero h0
    subst this
    exact ⟨none, 0, hv, Nat.le_refl _, by simp, fun h => absurd rfl h⟩
  · refine ⟨_, _, hv, hn, hc, fun _ => ⟨g, 0, rfl, hb, fun i hi => ⟨bV l[i], ?_, rfl⟩⟩⟩
    subst hv
    rw [Nat.zero_add, h.cellAt i (by omega), List.getElem?_map, List.getElem?_eq_getElem hi]
    rfl

set_option maxRecDepth 100000 in
set_option maxHeartbeats 1000000 in
theorem sum_any {F : Nat → Prop} {w : World} {v : Value} {l : List B} (h : BytesIn F w v l) :
    Calls Try.prog 14 #[v] w fun e w' => e = .returned (.int .i64 (sumL l)) ∧ w = w' := by
  obtain ⟨ad, cp, rfl, hm, hr⟩ := h
  unfold maxLen at hm
  have HR := hid hr
  clear hr
  go_enter Try.func14, Try.ntmps14
  go_wp2
  go_loop [3, 8] (fun n i => ∃ k : Nat, k ≤ l.length ∧ i = .int .i64 k ∧ n = .int .i64 (sumL (l.take k))) (fun _ i => l.length - (intOf i).toNat)
  case atStart => exact ⟨0, Nat.zero_le _, rfl, rfl⟩
  case round =>
    obtain ⟨k, hk, rfl, rfl⟩ := hrel
    have hs := sumL_lt (l.take k)
    by_cases hlt : k < l.length
    · obtain ⟨g, off, rfl, _, x, hx, rfl⟩ := HR.out.at' hlt
      have hc := l[k].toNat_lt
      have hsn := hid (sumL_snoc l k hlt)
      go_wp2
      go_round
      case rel => exact ⟨k + 1, by omega, by go_num, by rw [hsn.out]; go_num⟩
      case measure => simp [intOf]; omega
    · obtain rfl : k = l.length := by omega
      rw [List.take_length]
      go_wp2
      go_ret
      exact ⟨rfl, rfl⟩

theorem headV (c : List B) (h : c.length ≤ most) : (headL c).map bV = [.int .u8 87, .int .u8 72, .int .u8 1, .int .u8 ((c.length : Int) / 16777216), .int .u8 ((c.length : Int) / 65536), .int .u8 ((c.length : Int) / 256 % 256), .int .u8 ((c.length : Int) % 256), .int .u8 ((sumL c : Int) / 256), .int .u8 ((sumL c : Int) % 256)] := by
  have hs := sumL_lt c
  unfold most at h
  have e : ∀ (n : Nat) (z : Int), ((n % 256 : Nat) : Int) = z → bV (UInt8.ofNat n) = .int .u8 z := fun n z hz => by unfold bV; rw [byte_of, hz]
  unfold headL
  simp only [List.map_cons, List.map_nil]
  rw [e _ ((c.length : Int) / 16777216) (by omega), e _ ((c.length : Int) / 65536) (by omega), e _ ((c.length : Int) / 256 % 256) (by omega), e _ ((c.length : Int) % 256) (by omega), e _ ((sumL c : Int) / 256) (by omega), e _ ((sumL c : Int) % 256) (by omega)]
  rfl
theorem own_lit (w : World) (cur : Array Value) (T : TypeId) (base n : Nat) (hn : cur.size = n) (hb : base ≤ w.heap.size) (hm : n ≤ maxLen) : (w.alloc (.cells cur T)).ownsRow base T 1 (.slice (some ⟨w.heap.size, 0, none⟩) n n) n cur.toList := by
  subst hn
  exact ⟨by simp, .inr ⟨w.heap.size, cur.size, cur, rfl, hb, heap_alloc_new _ _, Nat.le_refl _, hm, by simp, by rw [Nat.mul_one]; exact List.take_of_length_le (Nat.le_refl _)⟩⟩

/-- what Encode hands back -/
def EncPost (w : World) (x : Img) (e : Ending) (w' : World) : Prop :=
  Below w.heap.size w w' ∧ ∃ v, e = .returned (.tuple #[v, .int .i64 (encode nameOk x).2]) ∧ BytesC (fun g => w.heap.size ≤ g) w' v (encode nameOk x).1
theorem enc_arg {x : Img} (h : imgOk nameOk x = false) : encode nameOk x = ([], 1) := by unfold encode; rw [h]; rfl
theorem enc_long {x : Img} (h : imgOk nameOk x = true) (hl : most < (eImg x).length) : encode nameOk x = ([], 2) := by unfold encode; rw [h, if_pos rfl, if_pos hl]
theorem enc_yes {x : Img} (h : imgOk nameOk x = true) (hl : ¬ most < (eImg x).length) : encode nameOk x = (headL (eImg x) ++ eImg x, 0) := by unfold encode; rw [h, if_pos rfl, if_neg hl]
theorem nil_bytes (F : Nat → Prop) (w : World) : BytesC F w (.slice none 0 0) [] := ⟨none, 0, rfl, Nat.le_refl _, by simp, fun h => absurd rfl h⟩
theorem eRules_snoc (l : List Rule) (k : Nat) (h : k < l.length) : eRules (l.take (k + 1)) = eRules (l.take k) ++ eRule l[k] := by
  rw [take_succ' _ _ h]; unfold eRules; rw [List.flatMap_append]; simp only [List.flatMap_cons, List.flatMap_nil, List.append_nil]
theorem eClasses_snoc (l : List Cls) (k : Nat) (h : k < l.length) : eClasses (l.take (k + 1)) = eClasses (l.take k) ++ eCls l[k] := by
  rw [take_succ' _ _ h]; unfold eClasses; rw [List.flatMap_append]; simp only [List.flatMap_cons, List.flatMap_nil, List.append_nil]

set_option maxRecDepth 100000 in
set_option maxHeartbeats 2000000 in
theorem encode_any {F : Nat → Prop} {w : World} {a b : Value} {x : Img} (hx : ImgIn F w a b x) (hF : ∀ g, F g → g < w.heap.size) (hlens : ImgLens x) :
    Calls Try.prog 9 #[.agg #[a, b]] w (EncPost w x) := by
  have HX := hid hx
  obtain ⟨h1, h2⟩ := hx
  obtain ⟨ad1, cp1, rfl, hm1, hr1⟩ := h1
  obtain ⟨ad2, cp2, rfl, hm2, hr2⟩ := h2
  unfold maxLen at hm1 hm2
  have HR1 := hid hr1
  have HR2 := hid hr2
  have HFF := hid hF
  have HL := hid hlens
  clear hr1 hr2 hF hlens
  have CHK : ∀ o : Obj, Calls Try.prog 12 #[.agg #[.slice ad1 x.rules.length cp1, .slice ad2 x.classes.length cp2]] (w.alloc o) fun e w' => e = .returned (.int .i64 (errOf (imgOk nameOk x))) ∧ Below (w.alloc o).heap.size (w.alloc o) w' := fun o =>
    imgCheck_any (HX.out.frame (F' := F) (fun _ h => h) (fun g _ hl => alloc_old hl)) (fun g hg => by have := HFF.out g hg; simp; omega) HL.out
  have HCK := hid CHK
  clear CHK
  rcases (Bool.eq_false_or_eq_true (imgOk nameOk x)).symm with hz | hz
  · have HE := hid (enc_arg hz)
    have HZ := hid hz
    clear hz
    go_enter Try.func9, Try.ntmps9
    go_wp2_with (go_at_call 12; refine (HCK.out _).mono ?_; rintro e w1 ⟨rfl, hb1⟩; rw [HZ.out, errOf_false rfl])
    go_ret2
    refine ⟨((Below.refl _ w).alloc (Nat.le_refl _) _).trans (hb1.mono (by simp)), .slice none 0 0, ?_, ?_⟩
    · rw [HE.out]; rfl
    · rw [HE.out]; exact nil_bytes _ _
  · have HZ := hid hz
    clear hz
    go_enter Try.func9, Try.ntmps9
    go_upto_region 4 with (go_at_call 12; refine (HCK.out _).mono ?_; rintro e w1 ⟨rfl, hb1⟩; rw [HZ.out, errOf_true rfl]; have HB1 := hid hb1; clear hb1)
    have hs1 := HB1.out.size
    simp only [World.size_alloc] at hs1
    have hDB1 := (HB1.out.block w.heap.size (by simp)).trans (heap_alloc_new _ _)
    have hB1 : Below w.heap.size w w1 := ((Below.refl _ w).alloc (Nat.le_refl _) _).trans (HB1.out.mono (by simp))
    have hWO : WOwn w1.heap.size (w1.alloc (.cells #[.slice none 0 0] 54)) [] := ⟨.slice none 0 0, [], heap_alloc_new _ _, World.ownsRow_nil _ _ _ _, fun _ => rfl, fun h => by simp at h⟩
    have HDB : Hid ((w1.alloc (.cells #[.slice none 0 0] 54)).heap[w.heap.size]? = some (.cells #[.slice ad1 x.rules.length cp1, .slice ad2 x.classes.length cp2] 25 (0, 0))) := hid ((alloc_old (by omega)).trans hDB1)
    have hBp : Below w.heap.size w (w1.alloc (.cells #[.slice none 0 0] 54)) := hB1.alloc (by omega) _
    have hszp : (w1.alloc (.cells #[.slice none 0 0] 54)).heap.size = w1.heap.size + 1 := by simp
    generalize w1.alloc (.cells #[.slice none 0 0] 54) = Wp at *
    have HWO := hid hWO
    have hP1 : w.heap.size < w1.heap.size := by omega
    generalize w1.heap.size = P at *
    have hFP : ∀ g, F g → g < P := fun g hg => by have := HFF.out g hg; omega
    have HFP := hid hFP
    have hrl : x.rules.length ≤ 64 := by have := HZ.out; simp only [imgOk, Bool.and_eq_true, decide_eq_true_eq] at this; exact this.1.1.1
    have hcl : x.classes.length ≤ 64 := by have := HZ.out; simp only [imgOk, Bool.and_eq_true, decide_eq_true_eq] at this; exact this.1.2
    have HRO := hid (show ∀ r ∈ x.rules, ruleOk r = true by have := HZ.out; simp only [imgOk, Bool.and_eq_true, decide_eq_true_eq, List.all_eq_true] at this; exact this.1.1.2)
    have HCO := hid (classesOk_mem x.classes [] (by have := HZ.out; simp only [imgOk, Bool.and_eq_true, decide_eq_true_eq] at this; exact this.2))
    clear HB1 hDB1 hB1 hWO hFP HCK
    obtain ⟨r0, r1⟩ := twocells HDB.out
    go_wp2_with fail
    refine (number_any HWO.out (by omega) (by omega)).mono ?_
    rintro e w2 ⟨rfl, hW2, hU2⟩
    have HW2 := hid hW2
    have HU2 := hid hU2
    obtain ⟨u0, u1⟩ := twocells (hU2.row HDB.out (by decide) (by omega))
    clear hW2 hU2 r0 r1
    go_wp2_with fail
    go_loopw [22] (fun v wr => ∃ k : Nat, k ≤ x.rules.length ∧ v = .int .i64 k ∧ WOwn P wr (eNum x.rules.length ++ eRules (x.rules.take k)) ∧ Upd P Wp wr) (fun v _ => x.rules.length - (intOf v).toNat)
    case atStart => exact ⟨0, Nat.zero_le _, rfl, by simpa [eRules] using HW2.out, HU2.out⟩
    case round =>
      obtain ⟨k, hk, rfl, hW, hU⟩ := hrel
      have HW := hid hW
      have HU := hid hU
      clear hW hU
      have hszr := HU.out.size
      by_cases hlt : k < x.rules.length
      · obtain ⟨g, off, rfl, hFg, hcells⟩ := HR1.out (by intro e; rw [e] at hlt; simp at hlt)
        obtain ⟨cs, hcs, hc, hrule⟩ := hcells k hlt
        have low : ∀ w' : World, Upd P Wp w' → ∀ g, F g → g < w.heap.size → w'.heap[g]? = w.heap[g]? := fun w' hu g hg hl => ((hu.low (by omega)).block g (HFP.out g hg)).trans (hBp.block g hl)
        have hc' : ∀ j c, cs[j]? = some c → wr.cell? ⟨g, off + k * 16 + j, none⟩ = some c := fun j c h => (cell_heap (low wr HU.out g hFg (HFF.out g hFg))).trans (hc j c h)
        obtain ⟨x1, p1, y1, q1, z1, s1, x2, p2, y2, q2, z2, s2, x3, p3, y3, q3, z3, s3, x4, p4, y4, q4, z4, s4, v4, t4, hcs2⟩ := hrule.shape
        rw [hcs2] at hc' hrule
        unfold ruleC at hc' hrule
        have k0 := hc' 0 _ rfl
        rw [Nat.add_zero] at k0
        have k1 := hc' 1 _ rfl
        have k2 := hc' 2 _ rfl
        have k3 := hc' 3 _ rfl
        have k4 := hc' 4 _ rfl
        have k5 := hc' 5 _ rfl
        have k6 := hc' 6 _ rfl
        have k7 := hc' 7 _ rfl
        have k8 := hc' 8 _ rfl
        have k9 := hc' 9 _ rfl
        have k10 := hc' 10 _ rfl
        have k11 := hc' 11 _ rfl
        have k12 := hc' 12 _ rfl
        have k13 := hc' 13 _ rfl
        have k14 := hc' 14 _ rfl
        have k15 := hc' 15 _ rfl
        have HRU := hid hrule
        have LOW := hid low
        have hrok := HRO.out _ (List.getElem_mem hlt)
        have HROK := hid hrok
        clear hcs2 hc' hrule hcells hc hcs low hrok u0 u1
        go_wp2_with (go_at_call 22; refine (ruleW_any (HW.out.alloc _) (HRU.out.frame (F' := F) (fun _ h => h) (LOW.out _ (HU.out.alloc _))) HFP.out HROK.out).mono ?_; rintro e w3 ⟨rfl, hW3, hU3⟩)
        go_roundw
        case rel => exact ⟨k + 1, by omega, by go_num, by rw [eRules_snoc _ _ hlt, ← List.append_assoc]; exact hW3, (HU.out.alloc _).trans hU3⟩
        case measure => simp [intOf]; omega
      · obtain rfl : k = x.rules.length := by omega
        have hWr := HW.out
        rw [List.take_length] at hWr
        have HWr := hid hWr
        obtain ⟨m0, m1⟩ := twocells (HU.out.row HDB.out (by decide) (by omega))
        clear hWr HW u0 u1
        go_wp2_with fail
        refine (number_any HWr.out (by omega) (by omega)).mono ?_
        rintro e w4 ⟨rfl, hW4, hU4⟩
        have HW4 := hid hW4
        have HU4 := hid (HU.out.trans hU4)
        obtain ⟨n0, n1⟩ := twocells (HU4.out.row HDB.out (by decide) (by omega))
        clear hW4 hU4 m0 m1
        go_wp2_with fail
        obtain ⟨wo, rfl⟩ : ∃ wo : World, wo = wr := ⟨_, rfl⟩
        go_loopw [36] (fun v wr => ∃ k : Nat, k ≤ x.classes.length ∧ v = .int .i64 k ∧ WOwn P wr (eNum x.rules.length ++ eRules x.rules ++ eNum x.classes.length ++ eClasses (x.classes.take k)) ∧ Upd P Wp wr) (fun v _ => x.classes.length - (intOf v).toNat)
        case atStart => exact ⟨0, Nat.zero_le _, rfl, by simpa [eClasses] using HW4.out, HU4.out⟩
        case round =>
          obtain ⟨k, hk, rfl, hW, hU⟩ := hrel
          have HW := hid hW
          have HU5 := hid hU
          clear hW hU
          have hszq := HU5.out.size
          by_cases hlt : k < x.classes.length
          · obtain ⟨g, off, rfl, hFg, hcells⟩ := HR2.out (by intro e; rw [e] at hlt; simp at hlt)
            obtain ⟨cs, hcs, hc, xa, pa, ya, qa, za, sa, rfl, hd⟩ := hcells k hlt
            have low : ∀ w' : World, Upd P Wp w' → ∀ g, F g → g < w.heap.size → w'.heap[g]? = w.heap[g]? := fun w' hu g hg hl => ((hu.low (by omega)).block g (HFP.out g hg)).trans (hBp.block g hl)
            have t0 := (cell_heap (low wr HU5.out g hFg (HFF.out g hFg))).trans (hc 0 _ rfl)
            have t1 := (cell_heap (low wr HU5.out g hFg (HFF.out g hFg))).trans (hc 1 _ rfl)
            have t2 := (cell_heap (low wr HU5.out g hFg (HFF.out g hFg))).trans (hc 2 _ rfl)
            have t3 := (cell_heap (low wr HU5.out g hFg (HFF.out g hFg))).trans (hc 3 _ rfl)
            rw [Nat.add_zero] at t0
            have HD := hid hd
            have LOW := hid low
            have hco := HCO.out _ (List.getElem_mem hlt)
            have hnl := nameOk_len hco.1
            have HDO := hid hco.2
            clear hcells hc hd low hco n0 n1
            go_wp2_with (first | (go_at_call 23; refine (textL_any _ (by omega) (HW.out.alloc _)).mono ?_; rintro e w6 ⟨rfl, hW6, hU6⟩; have HW6 := hid hW6; have HU6 := hid ((HU5.out.alloc _).trans hU6); obtain ⟨f0, f1, f2, f3⟩ := fourcells (hU6.row (heap_alloc_new _ _) (by decide) (by have := HW.out.lt; omega)); clear hW6 hU6) | (go_at_call 24; refine (autoW_any HW6.out (HD.out.frame (F' := F) (fun _ h => h) (LOW.out _ HU6.out)) HFP.out HDO.out).mono ?_; rintro e w7 ⟨rfl, hW7, hU7⟩))
            go_roundw
            case rel => exact ⟨k + 1, by omega, by go_num, by rw [eClasses_snoc _ _ hlt]; unfold eCls; simpa using hW7, HU6.out.trans hU7⟩
            case measure => simp [intOf]; omega
          · obtain rfl : k = x.classes.length := by omega
            have hWr := HW.out
            rw [List.take_length] at hWr
            obtain ⟨v, a, hv1, hv2, hv3, hv4⟩ := (show WOwn P wr (eImg x) from by unfold eImg; exact hWr)
            obtain ⟨ada, cpa, rfl⟩ := own_shape hv2
            have hcell := cell_box hv1
            have HV2 := hid hv2
            have HV3 := hid hv3
            have HV4 := hid hv4
            have hBw : Below w.heap.size w wr := hBp.trans ((HU5.out.low (by omega)).mono (by omega))
            have hsw := hBw.size
            clear hWr HW hv1 hv2 hv3 hv4 n0 n1
            by_cases hlong : most < (eImg x).length
            · have hal : (1048576 : Int) < a.length := by have := HV4.out hlong; unfold most at this; omega
              have HE := hid (enc_long HZ.out hlong)
              clear hlong
              go_wp2
              go_ret2
              refine ⟨hBw, .slice none 0 0, ?_, ?_⟩
              · rw [HE.out]; rfl
              · rw [HE.out]; exact nil_bytes _ _
            · have hae := HV3.out (by omega)
              have HE := hid (enc_yes HZ.out hlong)
              have hal : (a.length : Int) ≤ 1048576 := by rw [hae]; unfold most at hlong; omega
              have HAE := hid hae
              have HBI := hid (own_bytes HV2.out)
              have hsl := sumL_lt a
              clear hae hlong
              obtain ⟨i0, hi, hz0, hz1, hz2⟩ := info_parts infoB
              have HI := hid hi
              have HZZ := hid (And.intro hz0 (And.intro hz1 hz2))
              clear hi hz0 hz1 hz2
              obtain ⟨ga, rfl⟩ : ∃ ga, ada = some ⟨ga, 0, none⟩ := by
                rcases HV2.out.2 with ⟨_, h0⟩ | ⟨g, cap, cur, hv, _⟩
                · exfalso
                  have := HAE.out
                  rw [List.eq_nil_of_length_eq_zero h0] at this
                  simp [eImg, eNum] at this
                · cases hv; exact ⟨g, rfl⟩
              have hcell' : ∀ o : Obj, (wr.alloc o).cell? ⟨P, 0, none⟩ = some (.slice (some ⟨ga, 0, none⟩) a.length cpa) := fun o => (cell_heap (alloc_old (World.block_lt_of_cell? wr _ hcell))).trans hcell
              have hne : ∀ j u, (a.map bV)[j]? = some u → ∀ o : Obj, (wr.alloc o).cell? ((⟨ga, 0, none⟩ : Addr).add j) = some u := fun j u hu o => by
                have h := HV2.out.cells (g := ga) rfl j u hu
                rw [Addr.add_lit] at h ⊢
                exact (cell_heap (alloc_old (World.block_lt_of_cell? wr _ h))).trans h
              have HNE := hid hne
              have HHV := hid (headV a (by unfold most; omega))
              have hb0 : w.heap.size ≤ wr.heap.size := hsw
              clear hne
              go_wp2_with (first | (go_at_call 14; refine (sum_any HBI.out).mono ?_; rintro e w8 ⟨rfl, rfl⟩) | (at_builtin; refine wpList_append_two rfl _ _ 26 54 rfl w.heap.size 5 i0 (.int .u8 0) 1 1 Try.underlying26 Try.underlying54 HI.out HZZ.out.1 HZZ.out.2.1 HZZ.out.2.2 rfl (by decide) _ _ _ rfl (own_lit wr _ 5 w.heap.size 9 rfl hb0 (by decide)) ⟨ga, 0, none⟩ a.length cpa (a.map bV) rfl ?c0 ?c1 ?c2 ?c3 ?c4 ?c5 ?_))
              case c0 => simp
              case c1 => exact fun j u hu => HNE.out j u hu _
              case c2 => intro u hu; obtain ⟨c, _, rfl⟩ := List.mem_map.1 hu; rfl
              case c3 => unfold maxLen; omega
              case c4 => omega
              case c5 => simp; omega
              intro v9 w9 hown9 hgrow9 _
              have HOWN9 := hid hown9
              have HG9 := hid hgrow9
              clear hown9 hgrow9
              go_wp2
              go_ret2
              refine ⟨(hBw.alloc hb0 _).grown HG9.out (by simp; omega) (fun k hk => by simp [Value.ownBlock] at hk; omega), v9, ?_, ?_⟩
              · rw [HE.out]; rfl
              · rw [HE.out, ← HAE.out]
                refine own_bytesC ?_
                have e : (headL a ++ a).length = 9 + a.length := by rw [List.length_append, headL_len]
                show w9.ownsRow w.heap.size 5 1 v9 (headL a ++ a).length ((headL a ++ a).map bV)
                rw [e, List.map_append, HHV.out]
                exact HOWN9.out
end Go.Proofs.Ytdokeelodcckoaa.Im
