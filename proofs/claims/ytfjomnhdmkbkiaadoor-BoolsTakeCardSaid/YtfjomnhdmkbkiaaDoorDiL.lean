/-
  The walk of BoolsTake.
-/
import Derived.Test.YtfjomnhdmkbkiaaDoorDiQ
namespace Go.Proofs.YtfjomnhdmkbkiaaDoor.Im
open Go.RowKit Go.Lib Go.Maps Go.Shelf

/-- the function value fv joins two automatons by f -/
def JoinOk (fv : FuncId) (f : Bool → Bool → Bool) : Prop := ∀ (F G : Nat → Prop) (W : World) (a1 a2 a3 b1 b2 b3 : Value) (a b : Dfa), DfaIn F W a1 a2 a3 a → DfaIn G W b1 b2 b3 b → (∀ g, F g → g < W.heap.size) → (∀ g, G g → g < W.heap.size) → Tab W →
  ∀ (o : Oper) (act : Act) (K : Act → World → Prop) (Q : Exit → Act → World → Prop), (∀ v w', OfOut W (joinM f a b) (.returned v) w' → K (act.put o.dst v) w') → Oper.upon Tryd.prog o act K Q ((callFunc fv #[.agg #[a1, a2, a3], .agg #[b1, b2, b3]]).run Tryd.prog W)
set_option maxRecDepth 100000 in
theorem jok_and : JoinOk 29 (fun x y => x && y) := by
  intro F G W a1 a2 a3 b1 b2 b3 a b ha hb hF hG hT o act K Q hK
  have he : (callFunc 29 #[.agg #[a1, a2, a3], .agg #[b1, b2, b3]]).run Tryd.prog W = .ok (.enter 29 #[.agg #[a1, a2, a3], .agg #[b1, b2, b3]]) W := by
    have hf := Tryd.func29
    simp [callFunc, hf]
    rfl
  rw [he]
  refine (bAnd_any ha hb hF hG hT).mono ?_
  intro e w' hp
  obtain ⟨a, b, c, rfl, h1, h2⟩ := hp
  exact hK _ _ ⟨a, b, c, rfl, h1, h2⟩
set_option maxRecDepth 100000 in
theorem jok_or : JoinOk 30 (fun x y => x || y) := by
  intro F G W a1 a2 a3 b1 b2 b3 a b ha hb hF hG hT o act K Q hK
  have he : (callFunc 30 #[.agg #[a1, a2, a3], .agg #[b1, b2, b3]]).run Tryd.prog W = .ok (.enter 30 #[.agg #[a1, a2, a3], .agg #[b1, b2, b3]]) W := by
    have hf := Tryd.func30
    simp [callFunc, hf]
    rfl
  rw [he]
  refine (bOr_any ha hb hF hG hT).mono ?_
  intro e w' hp
  obtain ⟨a, b, c, rfl, h1, h2⟩ := hp
  exact hK _ _ ⟨a, b, c, rfl, h1, h2⟩
set_option maxRecDepth 100000 in
theorem jok_less : JoinOk 31 (fun x y => x && !y) := by
  intro F G W a1 a2 a3 b1 b2 b3 a b ha hb hF hG hT o act K Q hK
  have he : (callFunc 31 #[.agg #[a1, a2, a3], .agg #[b1, b2, b3]]).run Tryd.prog W = .ok (.enter 31 #[.agg #[a1, a2, a3], .agg #[b1, b2, b3]]) W := by
    have hf := Tryd.func31
    simp [callFunc, hf]
    rfl
  rw [he]
  refine (bLess_any ha hb hF hG hT).mono ?_
  intro e w' hp
  obtain ⟨a, b, c, rfl, h1, h2⟩ := hp
  exact hK _ _ ⟨a, b, c, rfl, h1, h2⟩
set_option maxRecDepth 100000 in
theorem jok_apart : JoinOk 32 (fun x y => x != y) := by
  intro F G W a1 a2 a3 b1 b2 b3 a b ha hb hF hG hT o act K Q hK
  have he : (callFunc 32 #[.agg #[a1, a2, a3], .agg #[b1, b2, b3]]).run Tryd.prog W = .ok (.enter 32 #[.agg #[a1, a2, a3], .agg #[b1, b2, b3]]) W := by
    have hf := Tryd.func32
    simp [callFunc, hf]
    rfl
  rw [he]
  refine (bApart_any ha hb hF hG hT).mono ?_
  intro e w' hp
  obtain ⟨a, b, c, rfl, h1, h2⟩ := hp
  exact hK _ _ ⟨a, b, c, rfl, h1, h2⟩
theorem three_all {w : World} {P : Nat} {a b c : Value} {T : TypeId} (x y z : Value) (h : w.heap[P]? = some (.cells #[a, b, c] T (0, 0))) : (((w.setCell ⟨P, 0, none⟩ x).setCell ⟨P, 1, none⟩ y).setCell ⟨P, 2, none⟩ z).heap[P]? = some (.cells #[x, y, z] T (0, 0)) := by
  rw [heap_setCell_same _ _ _ _ _ _ (heap_setCell_same _ _ _ _ _ _ (heap_setCell_same _ _ _ _ _ _ h))]; rfl
theorem ABox.born {w W : World} {B P c1 c2 c3 : Nat} {x1 x2 x3 : Option Addr} {d : Dfa} (h : DfaIn (fun q => B ≤ q ∧ q < w.heap.size) w (.slice x1 d.cls.length c1) (.slice x2 d.next.length c2) (.slice x3 d.fin.length c3) d) (hk : ∀ g, B ≤ g → g < w.heap.size → W.heap[g]? = w.heap[g]?) (hz : w.heap.size ≤ W.heap.size) (hP : W.heap[P]? = some (.cells #[.slice x1 d.cls.length c1, .slice x2 d.next.length c2, .slice x3 d.fin.length c3] 30 (0, 0))) :
    ABox W.heap.size W P x1 c1 x2 c2 x3 c3 d :=
  ⟨hP, lt_of_heap hP, h.frame (fun q hq => Nat.lt_of_lt_of_le hq.2 hz) (fun q hq _ => hk q hq.1 hq.2), Nat.le_refl _⟩
set_option maxRecDepth 100000 in
set_option maxHeartbeats 16000000 in
theorem take_bad {F G : Nat → Prop} {w : World} {a1 a2 a3 b1 b2 b3 : Value} {a b : Dfa} (ha : DfaIn F w a1 a2 a3 a) (hb : DfaIn G w b1 b2 b3 b) (hF : ∀ g, F g → g < w.heap.size) (hG : ∀ g, G g → g < w.heap.size) (t : ByteArray) (ht : t.size ≤ 140737488351232) (hT : Tab w) (hno : ¬ (dfaOk a = true ∧ dfaOk b = true)) :
    Calls Tryd.prog 9 #[.agg #[a1, a2, a3], .agg #[b1, b2, b3], .string t] w (AwPost w) := by
  have HNO := hid hno
  clear hno
  obtain ⟨W0, hW0⟩ : ∃ W0, W0 = (w.alloc (.cells #[a1, a2, a3] 30)).alloc (.cells #[b1, b2, b3] 30) := ⟨_, rfl⟩
  have hA0 : W0.heap[w.heap.size]? = some (.cells #[a1, a2, a3] 30 (0, 0)) := by rw [hW0]; exact (alloc_old (by simp)).trans (heap_alloc_new _ _)
  have hC0 : W0.heap[w.heap.size + 1]? = some (.cells #[b1, b2, b3] 30 (0, 0)) := by rw [hW0]; exact newB _ _ _
  have hB0 : Below w.heap.size w W0 := by rw [hW0]; exact ((Below.refl _ _).alloc (Nat.le_refl _) _).alloc (by simp) _
  have hz0 : W0.heap.size = w.heap.size + 2 := by rw [hW0]; simp
  obtain ⟨ada, cpa, rfl, hma, _⟩ := ha.cls
  obtain ⟨adb, cpb, rfl, hmb, _⟩ := ha.next
  obtain ⟨adc, cpc, rfl, hmc, _⟩ := ha.fin
  obtain ⟨ada', cpa', rfl, hma', _⟩ := hb.cls
  obtain ⟨adb', cpb', rfl, hmb', _⟩ := hb.next
  obtain ⟨adc', cpc', rfl, hmc', _⟩ := hb.fin
  unfold maxLen at hma hmb hmc hma' hmb' hmc'
  have Ha := hid (ABox.arg (L := w.heap.size + 2) ha hF hB0 hA0 (by omega) (by omega) (by omega))
  have Hb := hid (ABox.arg (L := w.heap.size + 2) hb hG hB0 hC0 (by omega) (by omega) (by omega))
  have HB := hid hB0
  have HT := hid (fun (W : World) (h : Below w.heap.size w W) => (show Tab W from hT.below h))
  have HW0 := hid hW0
  clear ha hb hF hG hT hA0 hC0 hB0 hW0 hz0
  obtain ⟨p00, p01, p02⟩ := Ha.out.cells
  obtain ⟨p10, p11, p12⟩ := Hb.out.cells
  have hc := few_shows Ha.out.dfa Ha.out.fits
  go_enter Tryd.func9, Tryd.ntmps9
  go_upto_region 1 with fail
  rw [← HW0.out]
  clear HW0
  go_wp2_with fail
  refine hc.mono ?_
  clear hc p00 p01 p02 p10 p11 p12
  rintro e w0 ⟨⟨xa, rfl, hfa⟩, hb⟩
  have Ha := hid (Ha.out.below (hb.mono Ha.out.le))
  have Hb := hid (Hb.out.below (hb.mono Hb.out.le))
  have HB := hid (HB.out.trans (hb.mono HB.out.size))
  have HFA := hid hfa
  clear hb hfa
  cases xa with
  | false =>
    go_wp2_with fail
    go_ret
    exact ⟨rfl, HB.out⟩
  | true =>
  obtain ⟨p10, p11, p12⟩ := Hb.out.cells
  have hc := few_shows Hb.out.dfa Hb.out.fits
  go_wp2_with fail
  refine hc.mono ?_
  clear hc p10 p11 p12
  rintro e w1 ⟨⟨xb, rfl, hfb⟩, hb⟩
  have Ha := hid (Ha.out.below (hb.mono Ha.out.le))
  have Hb := hid (Hb.out.below (hb.mono Hb.out.le))
  have HB := hid (HB.out.trans (hb.mono HB.out.size))
  have HFB := hid hfb
  clear hb hfb HFA
  cases xb with
  | false =>
    go_wp2_with fail
    go_ret
    exact ⟨rfl, HB.out⟩
  | true =>
  clear HFB
  by_cases h100 : 100 < t.size
  · have h100' : (100 : Int) < (t.size : Int) := by omega
    go_wp2_with fail
    go_ret
    exact ⟨rfl, HB.out⟩
  have h100' : ¬ ((100 : Int) < (t.size : Int)) := by omega
  go_upto_region 3 with fail
  have h1000 : t.size ≤ 1000 := by omega
  clear h100 h100'
  obtain ⟨pa, hpa⟩ : ∃ pa, takesM a t.data.toList = pa := ⟨_, rfl⟩
  obtain ⟨pb, hpb⟩ : ∃ pb, takesM b t.data.toList = pb := ⟨_, rfl⟩
  have hcase : pa.2 = 1 ∨ (pa.2 = 0 ∧ pb.2 = 1) := by
    by_cases h1 : dfaOk a = true
    · have h2 : ¬ dfaOk b = true := fun h2 => HNO.out ⟨h1, h2⟩
      exact .inr ⟨by rw [← hpa, takes_good h1], by rw [← hpb, Im.takes_bad h2]⟩
    · exact .inl (by rw [← hpa, Im.takes_bad h1])
  have HPA := hid hpa
  have HPB := hid hpb
  obtain ⟨xa, ea⟩ := pa
  obtain ⟨xb, eb⟩ := pb
  dsimp only at hcase
  have HCA := hid hcase
  clear hpa hpb hcase
  obtain ⟨p00, p01, p02⟩ := Ha.out.cells
  have hc := takes_any Ha.out.dfa Ha.out.fits t h1000
  rw [HPA.out] at hc
  go_wp2_with fail
  refine hc.mono ?_
  clear hc p00 p01 p02
  rintro e w2 ⟨rfl, hb⟩
  have Ha := hid (Ha.out.below (hb.mono Ha.out.le))
  have Hb := hid (Hb.out.below (hb.mono Hb.out.le))
  have HB := hid (HB.out.trans (hb.mono HB.out.size))
  clear hb
  obtain ⟨p00, p01, p02⟩ := Hb.out.cells
  have hc := takes_any Hb.out.dfa Hb.out.fits t h1000
  rw [HPB.out] at hc
  go_wp2_with fail
  refine hc.mono ?_
  clear hc p00 p01 p02
  rintro e w3 ⟨rfl, hb⟩
  have Ha := hid (Ha.out.below (hb.mono Ha.out.le))
  have Hb := hid (Hb.out.below (hb.mono Hb.out.le))
  have HB := hid (HB.out.trans (hb.mono HB.out.size))
  clear hb
  rcases HCA.out with rfl | ⟨rfl, rfl⟩
  · have haw := awake12_any _ (HT.out _ HB.out)
    go_wp2_with fail
    refine haw.mono ?_
    clear haw
    rintro e w9 ⟨rfl, hb⟩
    have HB := hid (HB.out.trans (hb.mono HB.out.size))
    clear hb
    go_wp2_with fail
    go_ret
    exact ⟨rfl, HB.out⟩
  · have haw := awake12_any _ (HT.out _ HB.out)
    go_wp2_with fail
    refine haw.mono ?_
    clear haw
    rintro e w9 ⟨rfl, hb⟩
    have HB := hid (HB.out.trans (hb.mono HB.out.size))
    clear hb
    go_wp2_with fail
    go_ret
    exact ⟨rfl, HB.out⟩
set_option maxRecDepth 100000 in
set_option maxHeartbeats 16000000 in
theorem take_ff {F G : Nat → Prop} {w : World} {a1 a2 a3 b1 b2 b3 : Value} {a b : Dfa} (ha : DfaIn F w a1 a2 a3 a) (hb : DfaIn G w b1 b2 b3 b) (hF : ∀ g, F g → g < w.heap.size) (hG : ∀ g, G g → g < w.heap.size) (t : ByteArray) (ht : t.size ≤ 140737488351232) (hT : Tab w) (hoka : dfaOk a = true) (hokb : dfaOk b = true) (hta : takesM a t.data.toList = (false, 0)) (htb : takesM b t.data.toList = (false, 0)) :
    Calls Tryd.prog 9 #[.agg #[a1, a2, a3], .agg #[b1, b2, b3], .string t] w (AwPost w) := by
  have HTA := hid hta
  have HTB := hid htb
  have HOA := hid hoka
  have HOB := hid hokb
  clear hta htb hoka hokb
  obtain ⟨W0, hW0⟩ : ∃ W0, W0 = (w.alloc (.cells #[a1, a2, a3] 30)).alloc (.cells #[b1, b2, b3] 30) := ⟨_, rfl⟩
  have hA0 : W0.heap[w.heap.size]? = some (.cells #[a1, a2, a3] 30 (0, 0)) := by rw [hW0]; exact (alloc_old (by simp)).trans (heap_alloc_new _ _)
  have hC0 : W0.heap[w.heap.size + 1]? = some (.cells #[b1, b2, b3] 30 (0, 0)) := by rw [hW0]; exact newB _ _ _
  have hB0 : Below w.heap.size w W0 := by rw [hW0]; exact ((Below.refl _ _).alloc (Nat.le_refl _) _).alloc (by simp) _
  have hz0 : W0.heap.size = w.heap.size + 2 := by rw [hW0]; simp
  obtain ⟨ada, cpa, rfl, hma, _⟩ := ha.cls
  obtain ⟨adb, cpb, rfl, hmb, _⟩ := ha.next
  obtain ⟨adc, cpc, rfl, hmc, _⟩ := ha.fin
  obtain ⟨ada', cpa', rfl, hma', _⟩ := hb.cls
  obtain ⟨adb', cpb', rfl, hmb', _⟩ := hb.next
  obtain ⟨adc', cpc', rfl, hmc', _⟩ := hb.fin
  unfold maxLen at hma hmb hmc hma' hmb' hmc'
  have Ha := hid (ABox.arg (L := w.heap.size + 2) ha hF hB0 hA0 (by omega) (by omega) (by omega))
  have Hb := hid (ABox.arg (L := w.heap.size + 2) hb hG hB0 hC0 (by omega) (by omega) (by omega))
  have HB := hid hB0
  have HT := hid (fun (W : World) (h : Below w.heap.size w W) => (show Tab W from hT.below h))
  have HW0 := hid hW0
  clear ha hb hF hG hT hA0 hC0 hB0 hW0 hz0
  obtain ⟨p00, p01, p02⟩ := Ha.out.cells
  obtain ⟨p10, p11, p12⟩ := Hb.out.cells
  have hc := few_shows Ha.out.dfa Ha.out.fits
  go_enter Tryd.func9, Tryd.ntmps9
  go_upto_region 1 with fail
  rw [← HW0.out]
  clear HW0
  go_wp2_with fail
  refine hc.mono ?_
  clear hc p00 p01 p02 p10 p11 p12
  rintro e w0 ⟨⟨xa, rfl, hfa⟩, hb⟩
  have Ha := hid (Ha.out.below (hb.mono Ha.out.le))
  have Hb := hid (Hb.out.below (hb.mono Hb.out.le))
  have HB := hid (HB.out.trans (hb.mono HB.out.size))
  have HFA := hid hfa
  clear hb hfa
  cases xa with
  | false =>
    go_wp2_with fail
    go_ret
    exact ⟨rfl, HB.out⟩
  | true =>
  obtain ⟨p10, p11, p12⟩ := Hb.out.cells
  have hc := few_shows Hb.out.dfa Hb.out.fits
  go_wp2_with fail
  refine hc.mono ?_
  clear hc p10 p11 p12
  rintro e w1 ⟨⟨xb, rfl, hfb⟩, hb⟩
  have Ha := hid (Ha.out.below (hb.mono Ha.out.le))
  have Hb := hid (Hb.out.below (hb.mono Hb.out.le))
  have HB := hid (HB.out.trans (hb.mono HB.out.size))
  have HFB := hid hfb
  clear hb hfb HFA
  cases xb with
  | false =>
    go_wp2_with fail
    go_ret
    exact ⟨rfl, HB.out⟩
  | true =>
  clear HFB
  by_cases h100 : 100 < t.size
  · have h100' : (100 : Int) < (t.size : Int) := by omega
    go_wp2_with fail
    go_ret
    exact ⟨rfl, HB.out⟩
  have h100' : ¬ ((100 : Int) < (t.size : Int)) := by omega
  go_upto_region 3 with fail
  have h1000 : t.size ≤ 1000 := by omega
  clear h100 h100'
  obtain ⟨p00, p01, p02⟩ := Ha.out.cells
  have hc := takes_any Ha.out.dfa Ha.out.fits t h1000
  rw [HTA.out] at hc
  go_wp2_with fail
  refine hc.mono ?_
  clear hc p00 p01 p02
  rintro e w2 ⟨rfl, hb⟩
  have Ha := hid (Ha.out.below (hb.mono Ha.out.le))
  have Hb := hid (Hb.out.below (hb.mono Hb.out.le))
  have HB := hid (HB.out.trans (hb.mono HB.out.size))
  clear hb
  obtain ⟨p00, p01, p02⟩ := Hb.out.cells
  have hc := takes_any Hb.out.dfa Hb.out.fits t h1000
  rw [HTB.out] at hc
  go_wp2_with fail
  refine hc.mono ?_
  clear hc p00 p01 p02
  rintro e w3 ⟨rfl, hb⟩
  have Ha := hid (Ha.out.below (hb.mono Ha.out.le))
  have Hb := hid (Hb.out.below (hb.mono Hb.out.le))
  have HB := hid (HB.out.trans (hb.mono HB.out.size))
  clear hb
  go_upto_region 8 with fail
  have hzs := HB.out.size
  obtain ⟨WS, hWS⟩ : ∃ WS, WS = w3.alloc (.cells #[.func (.func 29) #[] #[], .func (.func 30) #[] #[], .func (.func 31) #[] #[], .func (.func 32) #[] #[]] 51) := ⟨_, rfl⟩
  have hb : Below w3.heap.size w3 WS := by rw [hWS]; exact (Below.refl _ _).alloc (Nat.le_refl _) _
  have HS1 := hid (show WS.heap[w3.heap.size]? = some (.cells #[.func (.func 29) #[] #[], .func (.func 30) #[] #[], .func (.func 31) #[] #[], .func (.func 32) #[] #[]] 51 (0, 0)) by rw [hWS]; exact heap_alloc_new _ _)
  rw [← hWS]
  have Ha := hid (Ha.out.below (hb.mono Ha.out.le))
  have Hb := hid (Hb.out.below (hb.mono Hb.out.le))
  have HB := hid (HB.out.trans (hb.mono HB.out.size))
  clear hb hWS hzs
  generalize w3.heap.size = S1 at *
  go_upto_region 9 with fail
  obtain ⟨Wl, hWl⟩ : ∃ Wl, Wl = WS.alloc (.cells #[.bool false, .bool false, .bool false, .bool false] 4) := ⟨_, rfl⟩
  have hb : Below WS.heap.size WS Wl := by rw [hWl]; exact (Below.refl _ _).alloc (Nat.le_refl _) _
  have HS2 := hid (show Wl.heap[WS.heap.size]? = some (.cells #[.bool false, .bool false, .bool false, .bool false] 4 (0, 0)) by rw [hWl]; exact heap_alloc_new _ _)
  have HS1 := hid ((hb.block _ (lt_of_heap HS1.out)).trans HS1.out)
  rw [← hWl]
  have Ha := hid (Ha.out.below (hb.mono Ha.out.le))
  have Hb := hid (Hb.out.below (hb.mono Hb.out.le))
  have HB := hid (HB.out.trans (hb.mono HB.out.size))
  clear hb hWl
  generalize WS.heap.size = S2 at *
  have hs1 := lt_of_heap HS1.out
  have hs2 := lt_of_heap HS2.out
  have HAl := hid Ha.out
  have HCl := hid Hb.out
  have HBw := hid HB.out
  have HBl := hid (Below.refl Wl.heap.size Wl)
  clear Ha Hb HB
  go_wp2_with fail
  go_loopw [13] (fun i wr => ∃ k : Nat, k ≤ 4 ∧ i = .int .i64 k ∧ Below Wl.heap.size Wl wr) (fun i _ => 4 - (intOf i).toNat)
  case atStart => exact ⟨0, by decide, rfl, HBl.out⟩
  case round =>
    obtain ⟨k, hk, rfl, hbl⟩ := hrel
    have HBl := hid hbl
    have Ha := hid (HAl.out.below (hbl.mono HAl.out.le))
    have Hb := hid (HCl.out.below (hbl.mono HCl.out.le))
    have HB := hid (HBw.out.trans (hbl.mono HBw.out.size))
    have hs1w : S1 < wr.heap.size := Nat.lt_of_lt_of_le hs1 hbl.size
    clear hbl
    by_cases hlt : k < 4
    · obtain ⟨fv, f, fb, hs1k, hs2k, hj, hfb⟩ : ∃ (fv : FuncId) (f : Bool → Bool → Bool) (fb : Bool), Wl.cell? ⟨S1, k, none⟩ = some (.func (.func fv) #[] #[]) ∧ Wl.cell? ⟨S2, k, none⟩ = some (.bool fb) ∧ JoinOk fv f ∧ f false false = fb := by
        match k, hlt with
        | 0, _ => exact ⟨_, _, _, cell_blk HS1.out rfl, cell_blk HS2.out rfl, jok_and, rfl⟩
        | 1, _ => exact ⟨_, _, _, cell_blk HS1.out rfl, cell_blk HS2.out rfl, jok_or, rfl⟩
        | 2, _ => exact ⟨_, _, _, cell_blk HS1.out rfl, cell_blk HS2.out rfl, jok_less, rfl⟩
        | 3, _ => exact ⟨_, _, _, cell_blk HS1.out rfl, cell_blk HS2.out rfl, jok_apart, rfl⟩
      have HJ := hid hj
      have s1 := (HBl.out.cell (p := ⟨S1, k, none⟩) hs1).trans hs1k
      have S2K := hid (fun (W : World) (h : Below Wl.heap.size Wl W) => (h.cell (p := ⟨S2, k, none⟩) hs2).trans hs2k)
      have HFB := hid hfb
      have HAD := hid Ha.out.dfa
      have HBD := hid Hb.out.dfa
      obtain ⟨p00, p01, p02⟩ := Ha.out.cells
      obtain ⟨p10, p11, p12⟩ := Hb.out.cells
      have hkI : (k : Int) < 4 := by omega
      clear hs1k hs2k hj hfb hs1
      have hs1 := hs1w
      cases hx : joinM f a b with
      | error er =>
        obtain rfl := join_err HOA.out HOB.out hx
        have HX := hid hx
        clear hx
        go_upto_region 12 with fail
        have HKP := hid (fun (W : World) (h : Below wr.heap.size wr W) => (show (fun W : World => W.cell? ⟨w.heap.size, 0, none⟩ = some (.slice ada a.cls.length cpa) ∧ W.cell? ⟨w.heap.size, 1, none⟩ = some (.slice adb a.next.length cpb) ∧ W.cell? ⟨w.heap.size, 2, none⟩ = some (.slice adc a.fin.length cpc) ∧ W.cell? ⟨w.heap.size + 1, 0, none⟩ = some (.slice ada' b.cls.length cpa') ∧ W.cell? ⟨w.heap.size + 1, 1, none⟩ = some (.slice adb' b.next.length cpb') ∧ W.cell? ⟨w.heap.size + 1, 2, none⟩ = some (.slice adc' b.fin.length cpc') ∧ W.cell? ⟨S1, k, none⟩ = some (.func (.func fv) #[] #[])) W from ⟨(h.cell (Nat.lt_of_lt_of_le Ha.out.lt Ha.out.le)).trans p00, (h.cell (Nat.lt_of_lt_of_le Ha.out.lt Ha.out.le)).trans p01, (h.cell (Nat.lt_of_lt_of_le Ha.out.lt Ha.out.le)).trans p02, (h.cell (Nat.lt_of_lt_of_le Hb.out.lt Hb.out.le)).trans p10, (h.cell (Nat.lt_of_lt_of_le Hb.out.lt Hb.out.le)).trans p11, (h.cell (Nat.lt_of_lt_of_le Hb.out.lt Hb.out.le)).trans p12, (h.cell hs1).trans s1⟩))
        have HCUR := hid ((Below.refl wr.heap.size wr).drew)
        have HS := hid (HKP.out _ HCUR.out)
        clear p00 p01 p02 p10 p11 p12 s1
        refine wp_region_held_drew (S := (fun W : World => W.cell? ⟨w.heap.size, 0, none⟩ = some (.slice ada a.cls.length cpa) ∧ W.cell? ⟨w.heap.size, 1, none⟩ = some (.slice adb a.next.length cpb) ∧ W.cell? ⟨w.heap.size, 2, none⟩ = some (.slice adc a.fin.length cpc) ∧ W.cell? ⟨w.heap.size + 1, 0, none⟩ = some (.slice ada' b.cls.length cpa') ∧ W.cell? ⟨w.heap.size + 1, 1, none⟩ = some (.slice adb' b.next.length cpb') ∧ W.cell? ⟨w.heap.size + 1, 2, none⟩ = some (.slice adc' b.fin.length cpc') ∧ W.cell? ⟨S1, k, none⟩ = some (.func (.func fv) #[] #[]))) (by kernel_rfl) HS.out (fun _ => ?_)
        refine wpAnyH_take (i := 0) (v := .slice (some ⟨S1, 0, none⟩) 4 4) rfl (by kernel_rfl) (by kernel_rfl) (by kernel_rfl) (fun _ _ _ h => h) (Or.inl ⟨by rfl, fun w hS => by go_simp⟩) HS.out ?_
        simp only [Act.put, List.getElem_toArray, List.getElem_cons_zero, List.getElem_cons_succ, List.setIfInBounds_toArray, List.set_cons_zero, List.set_cons_succ]
        refine wpAnyH_take (i := 1) (v := .int .i64 k) rfl (by kernel_rfl) (by kernel_rfl) (by kernel_rfl) (fun _ _ _ h => h) (Or.inl ⟨by rfl, fun w hS => by go_simp⟩) HS.out ?_
        simp only [Act.put, List.getElem_toArray, List.getElem_cons_zero, List.getElem_cons_succ, List.setIfInBounds_toArray, List.set_cons_zero, List.set_cons_succ]
        refine wpAnyH_take (i := 2) (v := .pointer (some ⟨S1, k, none⟩)) rfl (by kernel_rfl) (by kernel_rfl) (by kernel_rfl) (fun _ _ _ h => h) (Or.inl ⟨by rfl, fun w hS => by go_simp⟩) HS.out ?_
        simp only [Act.put, List.getElem_toArray, List.getElem_cons_zero, List.getElem_cons_succ, List.setIfInBounds_toArray, List.set_cons_zero, List.set_cons_succ]
        refine wpAnyH_take (i := 3) (v := .func (.func fv) #[] #[]) rfl (by kernel_rfl) (by kernel_rfl) (by kernel_rfl) (fun _ _ _ h => h) (Or.inl ⟨by rfl, fun w hS => by have k6 := hS.2.2.2.2.2.2; go_simp⟩) HS.out ?_
        simp only [Act.put, List.getElem_toArray, List.getElem_cons_zero, List.getElem_cons_succ, List.setIfInBounds_toArray, List.set_cons_zero, List.set_cons_succ]
        refine wpAnyH_take (i := 4) (v := .agg #[.slice ada a.cls.length cpa, .slice adb a.next.length cpb, .slice adc a.fin.length cpc]) rfl (by kernel_rfl) (by kernel_rfl) (by kernel_rfl) (fun _ _ _ h => h) (Or.inl ⟨by rfl, fun w hS => by have k0 := hS.1; have k1 := hS.2.1; have k2 := hS.2.2.1; go_simp⟩) HS.out ?_
        simp only [Act.put, List.getElem_toArray, List.getElem_cons_zero, List.getElem_cons_succ, List.setIfInBounds_toArray, List.set_cons_zero, List.set_cons_succ]
        refine wpAnyH_take (i := 5) (v := .agg #[.slice ada' b.cls.length cpa', .slice adb' b.next.length cpb', .slice adc' b.fin.length cpc']) rfl (by kernel_rfl) (by kernel_rfl) (by kernel_rfl) (fun _ _ _ h => h) (Or.inl ⟨by rfl, fun w hS => by have k3 := hS.2.2.2.1; have k4 := hS.2.2.2.2.1; have k5 := hS.2.2.2.2.2.1; go_simp⟩) HS.out ?_
        simp only [Act.put, List.getElem_toArray, List.getElem_cons_zero, List.getElem_cons_succ, List.setIfInBounds_toArray, List.set_cons_zero, List.set_cons_succ]
        refine wpAnyH_ready (rs := [6, 10]) (by kernel_rfl) (by simp) (AllReadyH.cons rfl (fun K hK => ?_) (AllReadyH.cons rfl (fun K hK => ?_) AllReadyH.nil))
        · go_simp
          refine HJ.out _ _ _ _ _ _ _ _ _ _ _ (DfaIn.frame HAD.out (F' := fun q => q < w.heap.size + 2) (fun _ h => h) (fun q hq _ => HCUR.out.block q (Nat.lt_of_lt_of_le hq Ha.out.le))) (DfaIn.frame HBD.out (F' := fun q => q < w.heap.size + 2) (fun _ h => h) (fun q hq _ => HCUR.out.block q (Nat.lt_of_lt_of_le hq Hb.out.le))) (fun q hq => Nat.lt_of_lt_of_le (Nat.lt_of_lt_of_le hq Ha.out.le) HCUR.out.size) (fun q hq => Nat.lt_of_lt_of_le (Nat.lt_of_lt_of_le hq Hb.out.le) HCUR.out.size) (HT.out _ (HB.out.trans (HCUR.out.mono HB.out.size))) _ _ _ _ ?_
          intro v w3 hp
          rw [HX.out] at hp
          obtain ⟨x1, c1, x2, c2, x3, c3, he, hd, hb⟩ := hp.open'
          cases he
          dsimp only [outX] at hd ⊢
          have HD := hid hd
          have HPB' := hid hb
          have HCUR := hid (HCUR.out.trans (hb.mono HCUR.out.size))
          have HS := hid (HKP.out _ HCUR.out)
          refine hK.out _ _ HS.out (fun _ => ?_)
          clear hK K hb hd hp
          simp only [Act.put, List.getElem_toArray, List.getElem_cons_zero, List.getElem_cons_succ, List.setIfInBounds_toArray, List.set_cons_zero, List.set_cons_succ]
          refine wpAnyH_take (i := 7) (v := .tuple #[.agg #[.slice x1 Dfa.zero.cls.length c1, .slice x2 Dfa.zero.next.length c2, .slice x3 Dfa.zero.fin.length c3], .int .i64 2]) rfl (by kernel_rfl) (by kernel_rfl) (by kernel_rfl) (fun _ _ _ h => h) (Or.inl ⟨by rfl, fun w hS => by go_simp⟩) HS.out ?_
          simp only [Act.put, List.getElem_toArray, List.getElem_cons_zero, List.getElem_cons_succ, List.setIfInBounds_toArray, List.set_cons_zero, List.set_cons_succ]
          refine wpAnyH_take (i := 8) (v := .agg #[.slice x1 Dfa.zero.cls.length c1, .slice x2 Dfa.zero.next.length c2, .slice x3 Dfa.zero.fin.length c3]) rfl (by kernel_rfl) (by kernel_rfl) (by kernel_rfl) (fun _ _ _ h => h) (Or.inl ⟨by rfl, fun w hS => by go_simp⟩) HS.out ?_
          simp only [Act.put, List.getElem_toArray, List.getElem_cons_zero, List.getElem_cons_succ, List.setIfInBounds_toArray, List.set_cons_zero, List.set_cons_succ]
          refine wpAnyH_take (i := 9) (v := .int .i64 2) rfl (by kernel_rfl) (by kernel_rfl) (by kernel_rfl) (fun _ _ _ h => h) (Or.inl ⟨by rfl, fun w hS => by go_simp⟩) HS.out ?_
          simp only [Act.put, List.getElem_toArray, List.getElem_cons_zero, List.getElem_cons_succ, List.setIfInBounds_toArray, List.set_cons_zero, List.set_cons_succ]
          refine wpAnyH_ready (rs := [10]) (by kernel_rfl) (by simp) (AllReadyH.cons rfl (fun K hK => ?_) AllReadyH.nil)
          go_simp
          have hzr : wr.heap.size ≤ w3.heap.size := HCUR.out.size
          have HPB := hid (show (w3.alloc (.cells #[.slice none 0 0, .slice none 0 0, .slice none 0 0] 30)).heap[w3.heap.size]? = some (.cells #[.slice none 0 0, .slice none 0 0, .slice none 0 0] 30 (0, 0)) from heap_alloc_new _ _)
          have HPK := hid (fun (g : Nat) (_ : wr.heap.size ≤ g) (h2 : g < w3.heap.size) => (show (w3.alloc (.cells #[.slice none 0 0, .slice none 0 0, .slice none 0 0] 30)).heap[g]? = w3.heap[g]? from alloc_old h2))
          have HPZ := hid (show w3.heap.size ≤ (w3.alloc (.cells #[.slice none 0 0, .slice none 0 0, .slice none 0 0] 30)).heap.size by simp)
          have HCUR := hid (show Below wr.heap.size wr (w3.alloc (.cells #[.slice none 0 0, .slice none 0 0, .slice none 0 0] 30)) from HCUR.out.alloc hzr _)
          have HS := hid (HKP.out _ HCUR.out)
          refine hK.out _ _ HS.out (fun _ => ?_)
          clear hK K
          obtain ⟨P, hP⟩ : ∃ P, P = w3.heap.size := ⟨_, rfl⟩
          have HPN := hid (fun (g : Nat) (_ : wr.heap.size ≤ g) (h2 : g < w3.heap.size) => (show g ≠ P by rw [hP]; exact Nat.ne_of_lt h2))
          have HPL := hid (show wr.heap.size ≤ P by rw [hP]; exact hzr)
          generalize w3.alloc (.cells #[.slice none 0 0, .slice none 0 0, .slice none 0 0] 30) = w4 at *
          have HPB : Hid (w4.heap[P]? = some (.cells #[.slice none 0 0, .slice none 0 0, .slice none 0 0] 30 (0, 0))) := hid (by rw [hP]; exact HPB.out)
          rw [← hP]
          clear hP hzr
          have d0 := cell_blk (i := 0) HPB.out rfl
          have d1 := cell_blk (i := 1) HPB.out rfl
          have d2 := cell_blk (i := 2) HPB.out rfl
          have d3 := free_box (i := 0) HPB.out
          have d4 := free_box (i := 1) HPB.out
          have d5 := free_box (i := 2) HPB.out
          refine wpAnyH_ready (rs := [11]) (by kernel_rfl) (by simp) (AllReadyH.cons rfl (fun K hK => ?_) AllReadyH.nil)
          go_simp
          have hpb := three_all (.slice x1 Dfa.zero.cls.length c1) (.slice x2 Dfa.zero.next.length c2) (.slice x3 Dfa.zero.fin.length c3) HPB.out
          have HCUR := hid (show Below wr.heap.size wr (((w4.setCell ⟨P, 0, none⟩ (.slice x1 Dfa.zero.cls.length c1)).setCell ⟨P, 1, none⟩ (.slice x2 Dfa.zero.next.length c2)).setCell ⟨P, 2, none⟩ (.slice x3 Dfa.zero.fin.length c3)) from ((HCUR.out.setCell HPL.out _).setCell HPL.out _).setCell HPL.out _)
          have HS := hid (HKP.out _ HCUR.out)
          refine hK.out _ _ HS.out (fun _ => ?_)
          clear hK K d0 d1 d2 d3 d4 d5
          have HBO := hid (ABox.born HD.out (W := (((w4.setCell ⟨P, 0, none⟩ (.slice x1 Dfa.zero.cls.length c1)).setCell ⟨P, 1, none⟩ (.slice x2 Dfa.zero.next.length c2)).setCell ⟨P, 2, none⟩ (.slice x3 Dfa.zero.fin.length c3))) (fun g h1 h2 => (heap_setCell_other _ _ _ _ (HPN.out g h1 h2)).trans ((heap_setCell_other _ _ _ _ (HPN.out g h1 h2)).trans ((heap_setCell_other _ _ _ _ (HPN.out g h1 h2)).trans (HPK.out g h1 h2)))) (by simpa using HPZ.out) hpb)
          clear hpb
          generalize (((w4.setCell ⟨P, 0, none⟩ (.slice x1 Dfa.zero.cls.length c1)).setCell ⟨P, 1, none⟩ (.slice x2 Dfa.zero.next.length c2)).setCell ⟨P, 2, none⟩ (.slice x3 Dfa.zero.fin.length c3)) = w5 at *
          refine wpAnyH_take (i := 12) (v := .int .i64 2) rfl (by kernel_rfl) (by kernel_rfl) (by kernel_rfl) (fun _ _ _ h => h) (Or.inl ⟨by rfl, fun w hS => by go_simp⟩) HS.out ?_
          simp only [Act.put, List.getElem_toArray, List.getElem_cons_zero, List.getElem_cons_succ, List.setIfInBounds_toArray, List.set_cons_zero, List.set_cons_succ]
          refine wpAnyH_done (by kernel_rfl) ?_ _
          have Ha := hid (Ha.out.below (HCUR.out.mono Ha.out.le))
          have Hb := hid (Hb.out.below (HCUR.out.mono Hb.out.le))
          have HBl := hid (HBl.out.trans (HCUR.out.mono HBl.out.size))
          have HB := hid (HB.out.trans (HCUR.out.mono HB.out.size))
          go_wp2_with fail
          refine And.intro ?_ ?_
          · exact ⟨k + 1, by omega, by go_num, HBl.out⟩
          · simp [intOf]; omega
        · go_simp
          have HPB := hid (show ((wr.alloc (.cells #[.slice none 0 0, .slice none 0 0, .slice none 0 0] 30)).drew).heap[wr.heap.size]? = some (.cells #[.slice none 0 0, .slice none 0 0, .slice none 0 0] 30 (0, 0)) from heap_alloc_new _ _)
          have HZB := hid (show ((wr.alloc (.cells #[.slice none 0 0, .slice none 0 0, .slice none 0 0] 30)).drew).heap.size = wr.heap.size + 1 by simp)
          have HCUR := hid (show Below wr.heap.size wr ((wr.alloc (.cells #[.slice none 0 0, .slice none 0 0, .slice none 0 0] 30)).drew) from ((Below.refl _ _).alloc (Nat.le_refl _) _).drew)
          have HS := hid (HKP.out _ HCUR.out)
          refine hK.out _ _ HS.out (fun _ => ?_)
          clear hK K
          generalize (wr.alloc (.cells #[.slice none 0 0, .slice none 0 0, .slice none 0 0] 30)).drew = wb at *
          refine wpAnyH_ready (rs := [6]) (by kernel_rfl) (by simp) (AllReadyH.cons rfl (fun K hK => ?_) AllReadyH.nil)
          go_simp
          refine HJ.out _ _ _ _ _ _ _ _ _ _ _ (DfaIn.frame HAD.out (F' := fun q => q < w.heap.size + 2) (fun _ h => h) (fun q hq _ => HCUR.out.block q (Nat.lt_of_lt_of_le hq Ha.out.le))) (DfaIn.frame HBD.out (F' := fun q => q < w.heap.size + 2) (fun _ h => h) (fun q hq _ => HCUR.out.block q (Nat.lt_of_lt_of_le hq Hb.out.le))) (fun q hq => Nat.lt_of_lt_of_le (Nat.lt_of_lt_of_le hq Ha.out.le) HCUR.out.size) (fun q hq => Nat.lt_of_lt_of_le (Nat.lt_of_lt_of_le hq Hb.out.le) HCUR.out.size) (HT.out _ (HB.out.trans (HCUR.out.mono HB.out.size))) _ _ _ _ ?_
          intro v w3 hp
          rw [HX.out] at hp
          obtain ⟨x1, c1, x2, c2, x3, c3, he, hd, hb⟩ := hp.open'
          cases he
          dsimp only [outX] at hd ⊢
          have HD := hid hd
          have HPB' := hid hb
          have HCUR := hid (HCUR.out.trans (hb.mono HCUR.out.size))
          have HS := hid (HKP.out _ HCUR.out)
          refine hK.out _ _ HS.out (fun _ => ?_)
          clear hK K hb hd hp
          simp only [Act.put, List.getElem_toArray, List.getElem_cons_zero, List.getElem_cons_succ, List.setIfInBounds_toArray, List.set_cons_zero, List.set_cons_succ]
          refine wpAnyH_take (i := 7) (v := .tuple #[.agg #[.slice x1 Dfa.zero.cls.length c1, .slice x2 Dfa.zero.next.length c2, .slice x3 Dfa.zero.fin.length c3], .int .i64 2]) rfl (by kernel_rfl) (by kernel_rfl) (by kernel_rfl) (fun _ _ _ h => h) (Or.inl ⟨by rfl, fun w hS => by go_simp⟩) HS.out ?_
          simp only [Act.put, List.getElem_toArray, List.getElem_cons_zero, List.getElem_cons_succ, List.setIfInBounds_toArray, List.set_cons_zero, List.set_cons_succ]
          refine wpAnyH_take (i := 8) (v := .agg #[.slice x1 Dfa.zero.cls.length c1, .slice x2 Dfa.zero.next.length c2, .slice x3 Dfa.zero.fin.length c3]) rfl (by kernel_rfl) (by kernel_rfl) (by kernel_rfl) (fun _ _ _ h => h) (Or.inl ⟨by rfl, fun w hS => by go_simp⟩) HS.out ?_
          simp only [Act.put, List.getElem_toArray, List.getElem_cons_zero, List.getElem_cons_succ, List.setIfInBounds_toArray, List.set_cons_zero, List.set_cons_succ]
          refine wpAnyH_take (i := 9) (v := .int .i64 2) rfl (by kernel_rfl) (by kernel_rfl) (by kernel_rfl) (fun _ _ _ h => h) (Or.inl ⟨by rfl, fun w hS => by go_simp⟩) HS.out ?_
          simp only [Act.put, List.getElem_toArray, List.getElem_cons_zero, List.getElem_cons_succ, List.setIfInBounds_toArray, List.set_cons_zero, List.set_cons_succ]
          obtain ⟨P, hP⟩ : ∃ P, P = wr.heap.size := ⟨_, rfl⟩
          have HPB : Hid (w3.heap[P]? = some (.cells #[.slice none 0 0, .slice none 0 0, .slice none 0 0] 30 (0, 0))) := hid (by rw [hP]; exact (HPB'.out.block wr.heap.size (by rw [HZB.out]; omega)).trans HPB.out)
          have HPN := hid (fun (g : Nat) (h1 : wb.heap.size ≤ g) (_ : g < w3.heap.size) => (show g ≠ P by have := HZB.out; omega))
          have HPL := hid (show wr.heap.size ≤ P by rw [hP]; exact Nat.le_refl _)
          obtain ⟨w4, hw4⟩ : ∃ w4, w4 = w3 := ⟨_, rfl⟩
          have HPB : Hid (w4.heap[P]? = some (.cells #[.slice none 0 0, .slice none 0 0, .slice none 0 0] 30 (0, 0))) := hid (by rw [hw4]; exact HPB.out)
          have HPK := hid (fun (g : Nat) (_ : wb.heap.size ≤ g) (_ : g < w3.heap.size) => (show w4.heap[g]? = w3.heap[g]? by rw [hw4]))
          have HPZ := hid (show w3.heap.size ≤ w4.heap.size by rw [hw4]; exact Nat.le_refl _)
          have HCUR : Hid (Below wr.heap.size wr w4) := hid (by rw [hw4]; exact HCUR.out)
          have HS := hid (HKP.out _ HCUR.out)
          rw [← hP, ← hw4]
          clear hP hw4
          have d0 := cell_blk (i := 0) HPB.out rfl
          have d1 := cell_blk (i := 1) HPB.out rfl
          have d2 := cell_blk (i := 2) HPB.out rfl
          have d3 := free_box (i := 0) HPB.out
          have d4 := free_box (i := 1) HPB.out
          have d5 := free_box (i := 2) HPB.out
          refine wpAnyH_ready (rs := [11]) (by kernel_rfl) (by simp) (AllReadyH.cons rfl (fun K hK => ?_) AllReadyH.nil)
          go_simp
          have hpb := three_all (.slice x1 Dfa.zero.cls.length c1) (.slice x2 Dfa.zero.next.length c2) (.slice x3 Dfa.zero.fin.length c3) HPB.out
          have HCUR := hid (show Below wr.heap.size wr (((w4.setCell ⟨P, 0, none⟩ (.slice x1 Dfa.zero.cls.length c1)).setCell ⟨P, 1, none⟩ (.slice x2 Dfa.zero.next.length c2)).setCell ⟨P, 2, none⟩ (.slice x3 Dfa.zero.fin.length c3)) from ((HCUR.out.setCell HPL.out _).setCell HPL.out _).setCell HPL.out _)
          have HS := hid (HKP.out _ HCUR.out)
          refine hK.out _ _ HS.out (fun _ => ?_)
          clear hK K d0 d1 d2 d3 d4 d5
          have HBO := hid (ABox.born HD.out (W := (((w4.setCell ⟨P, 0, none⟩ (.slice x1 Dfa.zero.cls.length c1)).setCell ⟨P, 1, none⟩ (.slice x2 Dfa.zero.next.length c2)).setCell ⟨P, 2, none⟩ (.slice x3 Dfa.zero.fin.length c3))) (fun g h1 h2 => (heap_setCell_other _ _ _ _ (HPN.out g h1 h2)).trans ((heap_setCell_other _ _ _ _ (HPN.out g h1 h2)).trans ((heap_setCell_other _ _ _ _ (HPN.out g h1 h2)).trans (HPK.out g h1 h2)))) (by simpa using HPZ.out) hpb)
          clear hpb
          generalize (((w4.setCell ⟨P, 0, none⟩ (.slice x1 Dfa.zero.cls.length c1)).setCell ⟨P, 1, none⟩ (.slice x2 Dfa.zero.next.length c2)).setCell ⟨P, 2, none⟩ (.slice x3 Dfa.zero.fin.length c3)) = w5 at *
          refine wpAnyH_take (i := 12) (v := .int .i64 2) rfl (by kernel_rfl) (by kernel_rfl) (by kernel_rfl) (fun _ _ _ h => h) (Or.inl ⟨by rfl, fun w hS => by go_simp⟩) HS.out ?_
          simp only [Act.put, List.getElem_toArray, List.getElem_cons_zero, List.getElem_cons_succ, List.setIfInBounds_toArray, List.set_cons_zero, List.set_cons_succ]
          refine wpAnyH_done (by kernel_rfl) ?_ _
          have Ha := hid (Ha.out.below (HCUR.out.mono Ha.out.le))
          have Hb := hid (Hb.out.below (HCUR.out.mono Hb.out.le))
          have HBl := hid (HBl.out.trans (HCUR.out.mono HBl.out.size))
          have HB := hid (HB.out.trans (HCUR.out.mono HB.out.size))
          go_wp2_with fail
          refine And.intro ?_ ?_
          · exact ⟨k + 1, by omega, by go_num, HBl.out⟩
          · simp [intOf]; omega
      | ok d =>
        have HTK := hid (show takesM d t.data.toList = (fb, 0) by rw [(join_law hx).2, HTA.out, HTB.out, ← HFB.out])
        have HX := hid hx
        clear hx
        go_upto_region 12 with fail
        have HKP := hid (fun (W : World) (h : Below wr.heap.size wr W) => (show (fun W : World => W.cell? ⟨w.heap.size, 0, none⟩ = some (.slice ada a.cls.length cpa) ∧ W.cell? ⟨w.heap.size, 1, none⟩ = some (.slice adb a.next.length cpb) ∧ W.cell? ⟨w.heap.size, 2, none⟩ = some (.slice adc a.fin.length cpc) ∧ W.cell? ⟨w.heap.size + 1, 0, none⟩ = some (.slice ada' b.cls.length cpa') ∧ W.cell? ⟨w.heap.size + 1, 1, none⟩ = some (.slice adb' b.next.length cpb') ∧ W.cell? ⟨w.heap.size + 1, 2, none⟩ = some (.slice adc' b.fin.length cpc') ∧ W.cell? ⟨S1, k, none⟩ = some (.func (.func fv) #[] #[])) W from ⟨(h.cell (Nat.lt_of_lt_of_le Ha.out.lt Ha.out.le)).trans p00, (h.cell (Nat.lt_of_lt_of_le Ha.out.lt Ha.out.le)).trans p01, (h.cell (Nat.lt_of_lt_of_le Ha.out.lt Ha.out.le)).trans p02, (h.cell (Nat.lt_of_lt_of_le Hb.out.lt Hb.out.le)).trans p10, (h.cell (Nat.lt_of_lt_of_le Hb.out.lt Hb.out.le)).trans p11, (h.cell (Nat.lt_of_lt_of_le Hb.out.lt Hb.out.le)).trans p12, (h.cell hs1).trans s1⟩))
        have HCUR := hid ((Below.refl wr.heap.size wr).drew)
        have HS := hid (HKP.out _ HCUR.out)
        clear p00 p01 p02 p10 p11 p12 s1
        refine wp_region_held_drew (S := (fun W : World => W.cell? ⟨w.heap.size, 0, none⟩ = some (.slice ada a.cls.length cpa) ∧ W.cell? ⟨w.heap.size, 1, none⟩ = some (.slice adb a.next.length cpb) ∧ W.cell? ⟨w.heap.size, 2, none⟩ = some (.slice adc a.fin.length cpc) ∧ W.cell? ⟨w.heap.size + 1, 0, none⟩ = some (.slice ada' b.cls.length cpa') ∧ W.cell? ⟨w.heap.size + 1, 1, none⟩ = some (.slice adb' b.next.length cpb') ∧ W.cell? ⟨w.heap.size + 1, 2, none⟩ = some (.slice adc' b.fin.length cpc') ∧ W.cell? ⟨S1, k, none⟩ = some (.func (.func fv) #[] #[]))) (by kernel_rfl) HS.out (fun _ => ?_)
        refine wpAnyH_take (i := 0) (v := .slice (some ⟨S1, 0, none⟩) 4 4) rfl (by kernel_rfl) (by kernel_rfl) (by kernel_rfl) (fun _ _ _ h => h) (Or.inl ⟨by rfl, fun w hS => by go_simp⟩) HS.out ?_
        simp only [Act.put, List.getElem_toArray, List.getElem_cons_zero, List.getElem_cons_succ, List.setIfInBounds_toArray, List.set_cons_zero, List.set_cons_succ]
        refine wpAnyH_take (i := 1) (v := .int .i64 k) rfl (by kernel_rfl) (by kernel_rfl) (by kernel_rfl) (fun _ _ _ h => h) (Or.inl ⟨by rfl, fun w hS => by go_simp⟩) HS.out ?_
        simp only [Act.put, List.getElem_toArray, List.getElem_cons_zero, List.getElem_cons_succ, List.setIfInBounds_toArray, List.set_cons_zero, List.set_cons_succ]
        refine wpAnyH_take (i := 2) (v := .pointer (some ⟨S1, k, none⟩)) rfl (by kernel_rfl) (by kernel_rfl) (by kernel_rfl) (fun _ _ _ h => h) (Or.inl ⟨by rfl, fun w hS => by go_simp⟩) HS.out ?_
        simp only [Act.put, List.getElem_toArray, List.getElem_cons_zero, List.getElem_cons_succ, List.setIfInBounds_toArray, List.set_cons_zero, List.set_cons_succ]
        refine wpAnyH_take (i := 3) (v := .func (.func fv) #[] #[]) rfl (by kernel_rfl) (by kernel_rfl) (by kernel_rfl) (fun _ _ _ h => h) (Or.inl ⟨by rfl, fun w hS => by have k6 := hS.2.2.2.2.2.2; go_simp⟩) HS.out ?_
        simp only [Act.put, List.getElem_toArray, List.getElem_cons_zero, List.getElem_cons_succ, List.setIfInBounds_toArray, List.set_cons_zero, List.set_cons_succ]
        refine wpAnyH_take (i := 4) (v := .agg #[.slice ada a.cls.length cpa, .slice adb a.next.length cpb, .slice adc a.fin.length cpc]) rfl (by kernel_rfl) (by kernel_rfl) (by kernel_rfl) (fun _ _ _ h => h) (Or.inl ⟨by rfl, fun w hS => by have k0 := hS.1; have k1 := hS.2.1; have k2 := hS.2.2.1; go_simp⟩) HS.out ?_
        simp only [Act.put, List.getElem_toArray, List.getElem_cons_zero, List.getElem_cons_succ, List.setIfInBounds_toArray, List.set_cons_zero, List.set_cons_succ]
        refine wpAnyH_take (i := 5) (v := .agg #[.slice ada' b.cls.length cpa', .slice adb' b.next.length cpb', .slice adc' b.fin.length cpc']) rfl (by kernel_rfl) (by kernel_rfl) (by kernel_rfl) (fun _ _ _ h => h) (Or.inl ⟨by rfl, fun w hS => by have k3 := hS.2.2.2.1; have k4 := hS.2.2.2.2.1; have k5 := hS.2.2.2.2.2.1; go_simp⟩) HS.out ?_
        simp only [Act.put, List.getElem_toArray, List.getElem_cons_zero, List.getElem_cons_succ, List.setIfInBounds_toArray, List.set_cons_zero, List.set_cons_succ]
        refine wpAnyH_ready (rs := [6, 10]) (by kernel_rfl) (by simp) (AllReadyH.cons rfl (fun K hK => ?_) (AllReadyH.cons rfl (fun K hK => ?_) AllReadyH.nil))
        · go_simp
          refine HJ.out _ _ _ _ _ _ _ _ _ _ _ (DfaIn.frame HAD.out (F' := fun q => q < w.heap.size + 2) (fun _ h => h) (fun q hq _ => HCUR.out.block q (Nat.lt_of_lt_of_le hq Ha.out.le))) (DfaIn.frame HBD.out (F' := fun q => q < w.heap.size + 2) (fun _ h => h) (fun q hq _ => HCUR.out.block q (Nat.lt_of_lt_of_le hq Hb.out.le))) (fun q hq => Nat.lt_of_lt_of_le (Nat.lt_of_lt_of_le hq Ha.out.le) HCUR.out.size) (fun q hq => Nat.lt_of_lt_of_le (Nat.lt_of_lt_of_le hq Hb.out.le) HCUR.out.size) (HT.out _ (HB.out.trans (HCUR.out.mono HB.out.size))) _ _ _ _ ?_
          intro v w3 hp
          rw [HX.out] at hp
          obtain ⟨x1, c1, x2, c2, x3, c3, he, hd, hb⟩ := hp.open'
          cases he
          dsimp only [outX] at hd ⊢
          have HD := hid hd
          have HPB' := hid hb
          have HCUR := hid (HCUR.out.trans (hb.mono HCUR.out.size))
          have HS := hid (HKP.out _ HCUR.out)
          refine hK.out _ _ HS.out (fun _ => ?_)
          clear hK K hb hd hp
          simp only [Act.put, List.getElem_toArray, List.getElem_cons_zero, List.getElem_cons_succ, List.setIfInBounds_toArray, List.set_cons_zero, List.set_cons_succ]
          refine wpAnyH_take (i := 7) (v := .tuple #[.agg #[.slice x1 d.cls.length c1, .slice x2 d.next.length c2, .slice x3 d.fin.length c3], .int .i64 0]) rfl (by kernel_rfl) (by kernel_rfl) (by kernel_rfl) (fun _ _ _ h => h) (Or.inl ⟨by rfl, fun w hS => by go_simp⟩) HS.out ?_
          simp only [Act.put, List.getElem_toArray, List.getElem_cons_zero, List.getElem_cons_succ, List.setIfInBounds_toArray, List.set_cons_zero, List.set_cons_succ]
          refine wpAnyH_take (i := 8) (v := .agg #[.slice x1 d.cls.length c1, .slice x2 d.next.length c2, .slice x3 d.fin.length c3]) rfl (by kernel_rfl) (by kernel_rfl) (by kernel_rfl) (fun _ _ _ h => h) (Or.inl ⟨by rfl, fun w hS => by go_simp⟩) HS.out ?_
          simp only [Act.put, List.getElem_toArray, List.getElem_cons_zero, List.getElem_cons_succ, List.setIfInBounds_toArray, List.set_cons_zero, List.set_cons_succ]
          refine wpAnyH_take (i := 9) (v := .int .i64 0) rfl (by kernel_rfl) (by kernel_rfl) (by kernel_rfl) (fun _ _ _ h => h) (Or.inl ⟨by rfl, fun w hS => by go_simp⟩) HS.out ?_
          simp only [Act.put, List.getElem_toArray, List.getElem_cons_zero, List.getElem_cons_succ, List.setIfInBounds_toArray, List.set_cons_zero, List.set_cons_succ]
          refine wpAnyH_ready (rs := [10]) (by kernel_rfl) (by simp) (AllReadyH.cons rfl (fun K hK => ?_) AllReadyH.nil)
          go_simp
          have hzr : wr.heap.size ≤ w3.heap.size := HCUR.out.size
          have HPB := hid (show (w3.alloc (.cells #[.slice none 0 0, .slice none 0 0, .slice none 0 0] 30)).heap[w3.heap.size]? = some (.cells #[.slice none 0 0, .slice none 0 0, .slice none 0 0] 30 (0, 0)) from heap_alloc_new _ _)
          have HPK := hid (fun (g : Nat) (_ : wr.heap.size ≤ g) (h2 : g < w3.heap.size) => (show (w3.alloc (.cells #[.slice none 0 0, .slice none 0 0, .slice none 0 0] 30)).heap[g]? = w3.heap[g]? from alloc_old h2))
          have HPZ := hid (show w3.heap.size ≤ (w3.alloc (.cells #[.slice none 0 0, .slice none 0 0, .slice none 0 0] 30)).heap.size by simp)
          have HCUR := hid (show Below wr.heap.size wr (w3.alloc (.cells #[.slice none 0 0, .slice none 0 0, .slice none 0 0] 30)) from HCUR.out.alloc hzr _)
          have HS := hid (HKP.out _ HCUR.out)
          refine hK.out _ _ HS.out (fun _ => ?_)
          clear hK K
          obtain ⟨P, hP⟩ : ∃ P, P = w3.heap.size := ⟨_, rfl⟩
          have HPN := hid (fun (g : Nat) (_ : wr.heap.size ≤ g) (h2 : g < w3.heap.size) => (show g ≠ P by rw [hP]; exact Nat.ne_of_lt h2))
          have HPL := hid (show wr.heap.size ≤ P by rw [hP]; exact hzr)
          generalize w3.alloc (.cells #[.slice none 0 0, .slice none 0 0, .slice none 0 0] 30) = w4 at *
          have HPB : Hid (w4.heap[P]? = some (.cells #[.slice none 0 0, .slice none 0 0, .slice none 0 0] 30 (0, 0))) := hid (by rw [hP]; exact HPB.out)
          rw [← hP]
          clear hP hzr
          have d0 := cell_blk (i := 0) HPB.out rfl
          have d1 := cell_blk (i := 1) HPB.out rfl
          have d2 := cell_blk (i := 2) HPB.out rfl
          have d3 := free_box (i := 0) HPB.out
          have d4 := free_box (i := 1) HPB.out
          have d5 := free_box (i := 2) HPB.out
          refine wpAnyH_ready (rs := [11]) (by kernel_rfl) (by simp) (AllReadyH.cons rfl (fun K hK => ?_) AllReadyH.nil)
          go_simp
          have hpb := three_all (.slice x1 d.cls.length c1) (.slice x2 d.next.length c2) (.slice x3 d.fin.length c3) HPB.out
          have HCUR := hid (show Below wr.heap.size wr (((w4.setCell ⟨P, 0, none⟩ (.slice x1 d.cls.length c1)).setCell ⟨P, 1, none⟩ (.slice x2 d.next.length c2)).setCell ⟨P, 2, none⟩ (.slice x3 d.fin.length c3)) from ((HCUR.out.setCell HPL.out _).setCell HPL.out _).setCell HPL.out _)
          have HS := hid (HKP.out _ HCUR.out)
          refine hK.out _ _ HS.out (fun _ => ?_)
          clear hK K d0 d1 d2 d3 d4 d5
          have HBO := hid (ABox.born HD.out (W := (((w4.setCell ⟨P, 0, none⟩ (.slice x1 d.cls.length c1)).setCell ⟨P, 1, none⟩ (.slice x2 d.next.length c2)).setCell ⟨P, 2, none⟩ (.slice x3 d.fin.length c3))) (fun g h1 h2 => (heap_setCell_other _ _ _ _ (HPN.out g h1 h2)).trans ((heap_setCell_other _ _ _ _ (HPN.out g h1 h2)).trans ((heap_setCell_other _ _ _ _ (HPN.out g h1 h2)).trans (HPK.out g h1 h2)))) (by simpa using HPZ.out) hpb)
          clear hpb
          generalize (((w4.setCell ⟨P, 0, none⟩ (.slice x1 d.cls.length c1)).setCell ⟨P, 1, none⟩ (.slice x2 d.next.length c2)).setCell ⟨P, 2, none⟩ (.slice x3 d.fin.length c3)) = w5 at *
          refine wpAnyH_take (i := 12) (v := .int .i64 0) rfl (by kernel_rfl) (by kernel_rfl) (by kernel_rfl) (fun _ _ _ h => h) (Or.inl ⟨by rfl, fun w hS => by go_simp⟩) HS.out ?_
          simp only [Act.put, List.getElem_toArray, List.getElem_cons_zero, List.getElem_cons_succ, List.setIfInBounds_toArray, List.set_cons_zero, List.set_cons_succ]
          refine wpAnyH_done (by kernel_rfl) ?_ _
          have Ha := hid (Ha.out.below (HCUR.out.mono Ha.out.le))
          have Hb := hid (Hb.out.below (HCUR.out.mono Hb.out.le))
          have HBl := hid (HBl.out.trans (HCUR.out.mono HBl.out.size))
          have HB := hid (HB.out.trans (HCUR.out.mono HB.out.size))
          obtain ⟨q0, q1, q2⟩ := HBO.out.cells
          have hc := takes_any HBO.out.dfa HBO.out.fits t h1000
          rw [HTK.out] at hc
          go_wp2_with fail
          refine hc.mono ?_
          clear hc q0 q1 q2
          rintro e w6 ⟨rfl, hb6⟩
          have HBl := hid (HBl.out.trans (hb6.mono HBl.out.size))
          clear hb6
          have s2 := S2K.out w6 HBl.out
          clear HFB HTK
          cases fb
          all_goals go_wp2_with fail
          all_goals refine And.intro ?_ ?_
          all_goals first
            | exact ⟨k + 1, by omega, by go_num, HBl.out⟩
            | (simp [intOf]; omega)
        · go_simp
          have HPB := hid (show ((wr.alloc (.cells #[.slice none 0 0, .slice none 0 0, .slice none 0 0] 30)).drew).heap[wr.heap.size]? = some (.cells #[.slice none 0 0, .slice none 0 0, .slice none 0 0] 30 (0, 0)) from heap_alloc_new _ _)
          have HZB := hid (show ((wr.alloc (.cells #[.slice none 0 0, .slice none 0 0, .slice none 0 0] 30)).drew).heap.size = wr.heap.size + 1 by simp)
          have HCUR := hid (show Below wr.heap.size wr ((wr.alloc (.cells #[.slice none 0 0, .slice none 0 0, .slice none 0 0] 30)).drew) from ((Below.refl _ _).alloc (Nat.le_refl _) _).drew)
          have HS := hid (HKP.out _ HCUR.out)
          refine hK.out _ _ HS.out (fun _ => ?_)
          clear hK K
          generalize (wr.alloc (.cells #[.slice none 0 0, .slice none 0 0, .slice none 0 0] 30)).drew = wb at *
          refine wpAnyH_ready (rs := [6]) (by kernel_rfl) (by simp) (AllReadyH.cons rfl (fun K hK => ?_) AllReadyH.nil)
          go_simp
          refine HJ.out _ _ _ _ _ _ _ _ _ _ _ (DfaIn.frame HAD.out (F' := fun q => q < w.heap.size + 2) (fun _ h => h) (fun q hq _ => HCUR.out.block q (Nat.lt_of_lt_of_le hq Ha.out.le))) (DfaIn.frame HBD.out (F' := fun q => q < w.heap.size + 2) (fun _ h => h) (fun q hq _ => HCUR.out.block q (Nat.lt_of_lt_of_le hq Hb.out.le))) (fun q hq => Nat.lt_of_lt_of_le (Nat.lt_of_lt_of_le hq Ha.out.le) HCUR.out.size) (fun q hq => Nat.lt_of_lt_of_le (Nat.lt_of_lt_of_le hq Hb.out.le) HCUR.out.size) (HT.out _ (HB.out.trans (HCUR.out.mono HB.out.size))) _ _ _ _ ?_
          intro v w3 hp
          rw [HX.out] at hp
          obtain ⟨x1, c1, x2, c2, x3, c3, he, hd, hb⟩ := hp.open'
          cases he
          dsimp only [outX] at hd ⊢
          have HD := hid hd
          have HPB' := hid hb
          have HCUR := hid (HCUR.out.trans (hb.mono HCUR.out.size))
          have HS := hid (HKP.out _ HCUR.out)
          refine hK.out _ _ HS.out (fun _ => ?_)
          clear hK K hb hd hp
          simp only [Act.put, List.getElem_toArray, List.getElem_cons_zero, List.getElem_cons_succ, List.setIfInBounds_toArray, List.set_cons_zero, List.set_cons_succ]
          refine wpAnyH_take (i := 7) (v := .tuple #[.agg #[.slice x1 d.cls.length c1, .slice x2 d.next.length c2, .slice x3 d.fin.length c3], .int .i64 0]) rfl (by kernel_rfl) (by kernel_rfl) (by kernel_rfl) (fun _ _ _ h => h) (Or.inl ⟨by rfl, fun w hS => by go_simp⟩) HS.out ?_
          simp only [Act.put, List.getElem_toArray, List.getElem_cons_zero, List.getElem_cons_succ, List.setIfInBounds_toArray, List.set_cons_zero, List.set_cons_succ]
          refine wpAnyH_take (i := 8) (v := .agg #[.slice x1 d.cls.length c1, .slice x2 d.next.length c2, .slice x3 d.fin.length c3]) rfl (by kernel_rfl) (by kernel_rfl) (by kernel_rfl) (fun _ _ _ h => h) (Or.inl ⟨by rfl, fun w hS => by go_simp⟩) HS.out ?_
          simp only [Act.put, List.getElem_toArray, List.getElem_cons_zero, List.getElem_cons_succ, List.setIfInBounds_toArray, List.set_cons_zero, List.set_cons_succ]
          refine wpAnyH_take (i := 9) (v := .int .i64 0) rfl (by kernel_rfl) (by kernel_rfl) (by kernel_rfl) (fun _ _ _ h => h) (Or.inl ⟨by rfl, fun w hS => by go_simp⟩) HS.out ?_
          simp only [Act.put, List.getElem_toArray, List.getElem_cons_zero, List.getElem_cons_succ, List.setIfInBounds_toArray, List.set_cons_zero, List.set_cons_succ]
          obtain ⟨P, hP⟩ : ∃ P, P = wr.heap.size := ⟨_, rfl⟩
          have HPB : Hid (w3.heap[P]? = some (.cells #[.slice none 0 0, .slice none 0 0, .slice none 0 0] 30 (0, 0))) := hid (by rw [hP]; exact (HPB'.out.block wr.heap.size (by rw [HZB.out]; omega)).trans HPB.out)
          have HPN := hid (fun (g : Nat) (h1 : wb.heap.size ≤ g) (_ : g < w3.heap.size) => (show g ≠ P by have := HZB.out; omega))
          have HPL := hid (show wr.heap.size ≤ P by rw [hP]; exact Nat.le_refl _)
          obtain ⟨w4, hw4⟩ : ∃ w4, w4 = w3 := ⟨_, rfl⟩
          have HPB : Hid (w4.heap[P]? = some (.cells #[.slice none 0 0, .slice none 0 0, .slice none 0 0] 30 (0, 0))) := hid (by rw [hw4]; exact HPB.out)
          have HPK := hid (fun (g : Nat) (_ : wb.heap.size ≤ g) (_ : g < w3.heap.size) => (show w4.heap[g]? = w3.heap[g]? by rw [hw4]))
          have HPZ := hid (show w3.heap.size ≤ w4.heap.size by rw [hw4]; exact Nat.le_refl _)
          have HCUR : Hid (Below wr.heap.size wr w4) := hid (by rw [hw4]; exact HCUR.out)
          have HS := hid (HKP.out _ HCUR.out)
          rw [← hP, ← hw4]
          clear hP hw4
          have d0 := cell_blk (i := 0) HPB.out rfl
          have d1 := cell_blk (i := 1) HPB.out rfl
          have d2 := cell_blk (i := 2) HPB.out rfl
          have d3 := free_box (i := 0) HPB.out
          have d4 := free_box (i := 1) HPB.out
          have d5 := free_box (i := 2) HPB.out
          refine wpAnyH_ready (rs := [11]) (by kernel_rfl) (by simp) (AllReadyH.cons rfl (fun K hK => ?_) AllReadyH.nil)
          go_simp
          have hpb := three_all (.slice x1 d.cls.length c1) (.slice x2 d.next.length c2) (.slice x3 d.fin.length c3) HPB.out
          have HCUR := hid (show Below wr.heap.size wr (((w4.setCell ⟨P, 0, none⟩ (.slice x1 d.cls.length c1)).setCell ⟨P, 1, none⟩ (.slice x2 d.next.length c2)).setCell ⟨P, 2, none⟩ (.slice x3 d.fin.length c3)) from ((HCUR.out.setCell HPL.out _).setCell HPL.out _).setCell HPL.out _)
          have HS := hid (HKP.out _ HCUR.out)
          refine hK.out _ _ HS.out (fun _ => ?_)
          clear hK K d0 d1 d2 d3 d4 d5
          have HBO := hid (ABox.born HD.out (W := (((w4.setCell ⟨P, 0, none⟩ (.slice x1 d.cls.length c1)).setCell ⟨P, 1, none⟩ (.slice x2 d.next.length c2)).setCell ⟨P, 2, none⟩ (.slice x3 d.fin.length c3))) (fun g h1 h2 => (heap_setCell_other _ _ _ _ (HPN.out g h1 h2)).trans ((heap_setCell_other _ _ _ _ (HPN.out g h1 h2)).trans ((heap_setCell_other _ _ _ _ (HPN.out g h1 h2)).trans (HPK.out g h1 h2)))) (by simpa using HPZ.out) hpb)
          clear hpb
          generalize (((w4.setCell ⟨P, 0, none⟩ (.slice x1 d.cls.length c1)).setCell ⟨P, 1, none⟩ (.slice x2 d.next.length c2)).setCell ⟨P, 2, none⟩ (.slice x3 d.fin.length c3)) = w5 at *
          refine wpAnyH_take (i := 12) (v := .int .i64 0) rfl (by kernel_rfl) (by kernel_rfl) (by kernel_rfl) (fun _ _ _ h => h) (Or.inl ⟨by rfl, fun w hS => by go_simp⟩) HS.out ?_
          simp only [Act.put, List.getElem_toArray, List.getElem_cons_zero, List.getElem_cons_succ, List.setIfInBounds_toArray, List.set_cons_zero, List.set_cons_succ]
          refine wpAnyH_done (by kernel_rfl) ?_ _
          have Ha := hid (Ha.out.below (HCUR.out.mono Ha.out.le))
          have Hb := hid (Hb.out.below (HCUR.out.mono Hb.out.le))
          have HBl := hid (HBl.out.trans (HCUR.out.mono HBl.out.size))
          have HB := hid (HB.out.trans (HCUR.out.mono HB.out.size))
          obtain ⟨q0, q1, q2⟩ := HBO.out.cells
          have hc := takes_any HBO.out.dfa HBO.out.fits t h1000
          rw [HTK.out] at hc
          go_wp2_with fail
          refine hc.mono ?_
          clear hc q0 q1 q2
          rintro e w6 ⟨rfl, hb6⟩
          have HBl := hid (HBl.out.trans (hb6.mono HBl.out.size))
          clear hb6
          have s2 := S2K.out w6 HBl.out
          clear HFB HTK
          cases fb
          all_goals go_wp2_with fail
          all_goals refine And.intro ?_ ?_
          all_goals first
            | exact ⟨k + 1, by omega, by go_num, HBl.out⟩
            | (simp [intOf]; omega)
    · have hk4 : ¬ ((k : Int) < 4) := by omega
      clear hlt hk
      obtain ⟨dk, hdk⟩ := not_some HOA.out
      have htk := (not_law hdk).2.2.2.2.2
      have HNK := hid hdk
      have HTK := hid (show takesM dk t.data.toList = (!false, 0) by rw [htk, HTA.out])
      clear hdk htk
      go_upto_region 17 with fail
      obtain ⟨p00, p01, p02⟩ := Ha.out.cells
      have hc := bnot_any Ha.out.dfa Ha.out.fits
      rw [HNK.out] at hc
      go_wp2_with fail
      refine hc.mono ?_
      clear hc p00 p01 p02
      rintro e w21 hp
      obtain ⟨x1, c1, x2, c2, x3, c3, rfl, hd, hb⟩ := hp.open'
      rw [show outX (Except.ok dk) = (dk, 0) from rfl] at hd ⊢
      dsimp only at hd ⊢
      have HD := hid hd
      have Ha := hid (Ha.out.below (hb.mono Ha.out.le))
      have HB := hid (HB.out.trans (hb.mono HB.out.size))
      clear hd hb hp
      go_upto_region 18 with fail
      have hA := ABox.new HD.out
      generalize hW : w21.alloc (.cells #[.slice x1 dk.cls.length c1, .slice x2 dk.next.length c2, .slice x3 dk.fin.length c3] 30) = v21 at *
      have hb : Below w21.heap.size w21 v21 := by rw [← hW]; exact (Below.refl _ _).alloc (Nat.le_refl _) _
      have Hk := hid hA
      have Ha := hid (Ha.out.below (hb.mono Ha.out.le))
      have HB := hid (HB.out.trans (hb.mono HB.out.size))
      clear hW HD hA hb
      obtain ⟨p00, p01, p02⟩ := Hk.out.cells
      have hc := takes_any Hk.out.dfa Hk.out.fits t h1000
      rw [HTK.out] at hc
      go_wp2_with fail
      refine hc.mono ?_
      clear hc p00 p01 p02
      rintro e w22 ⟨rfl, hb⟩
      have Ha := hid (Ha.out.below (hb.mono Ha.out.le))
      have Hk := hid (Hk.out.below (hb.mono Hk.out.le))
      have HB := hid (HB.out.trans (hb.mono HB.out.size))
      clear hb
      have haw := awake12_any _ (HT.out _ HB.out)
      go_wp2_with fail
      refine haw.mono ?_
      clear haw
      rintro e w23 ⟨rfl, hb⟩
      have HB := hid (HB.out.trans (hb.mono HB.out.size))
      clear hb
      go_wp2_with fail
      go_ret
      exact ⟨rfl, HB.out⟩
set_option maxRecDepth 100000 in
set_option maxHeartbeats 16000000 in
theorem take_ft {F G : Nat → Prop} {w : World} {a1 a2 a3 b1 b2 b3 : Value} {a b : Dfa} (ha : DfaIn F w a1 a2 a3 a) (hb : DfaIn G w b1 b2 b3 b) (hF : ∀ g, F g → g < w.heap.size) (hG : ∀ g, G g → g < w.heap.size) (t : ByteArray) (ht : t.size ≤ 140737488351232) (hT : Tab w) (hoka : dfaOk a = true) (hokb : dfaOk b = true) (hta : takesM a t.data.toList = (false, 0)) (htb : takesM b t.data.toList = (true, 0)) :
    Calls Tryd.prog 9 #[.agg #[a1, a2, a3], .agg #[b1, b2, b3], .string t] w (AwPost w) := by
  have HTA := hid hta
  have HTB := hid htb
  have HOA := hid hoka
  have HOB := hid hokb
  clear hta htb hoka hokb
  obtain ⟨W0, hW0⟩ : ∃ W0, W0 = (w.alloc (.cells #[a1, a2, a3] 30)).alloc (.cells #[b1, b2, b3] 30) := ⟨_, rfl⟩
  have hA0 : W0.heap[w.heap.size]? = some (.cells #[a1, a2, a3] 30 (0, 0)) := by rw [hW0]; exact (alloc_old (by simp)).trans (heap_alloc_new _ _)
  have hC0 : W0.heap[w.heap.size + 1]? = some (.cells #[b1, b2, b3] 30 (0, 0)) := by rw [hW0]; exact newB _ _ _
  have hB0 : Below w.heap.size w W0 := by rw [hW0]; exact ((Below.refl _ _).alloc (Nat.le_refl _) _).alloc (by simp) _
  have hz0 : W0.heap.size = w.heap.size + 2 := by rw [hW0]; simp
  obtain ⟨ada, cpa, rfl, hma, _⟩ := ha.cls
  obtain ⟨adb, cpb, rfl, hmb, _⟩ := ha.next
  obtain ⟨adc, cpc, rfl, hmc, _⟩ := ha.fin
  obtain ⟨ada', cpa', rfl, hma', _⟩ := hb.cls
  obtain ⟨adb', cpb', rfl, hmb', _⟩ := hb.next
  obtain ⟨adc', cpc', rfl, hmc', _⟩ := hb.fin
  unfold maxLen at hma hmb hmc hma' hmb' hmc'
  have Ha := hid (ABox.arg (L := w.heap.size + 2) ha hF hB0 hA0 (by omega) (by omega) (by omega))
  have Hb := hid (ABox.arg (L := w.heap.size + 2) hb hG hB0 hC0 (by omega) (by omega) (by omega))
  have HB := hid hB0
  have HT := hid (fun (W : World) (h : Below w.heap.size w W) => (show Tab W from hT.below h))
  have HW0 := hid hW0
  clear ha hb hF hG hT hA0 hC0 hB0 hW0 hz0
  obtain ⟨p00, p01, p02⟩ := Ha.out.cells
  obtain ⟨p10, p11, p12⟩ := Hb.out.cells
  have hc := few_shows Ha.out.dfa Ha.out.fits
  go_enter Tryd.func9, Tryd.ntmps9
  go_upto_region 1 with fail
  rw [← HW0.out]
  clear HW0
  go_wp2_with fail
  refine hc.mono ?_
  clear hc p00 p01 p02 p10 p11 p12
  rintro e w0 ⟨⟨xa, rfl, hfa⟩, hb⟩
  have Ha := hid (Ha.out.below (hb.mono Ha.out.le))
  have Hb := hid (Hb.out.below (hb.mono Hb.out.le))
  have HB := hid (HB.out.trans (hb.mono HB.out.size))
  have HFA := hid hfa
  clear hb hfa
  cases xa with
  | false =>
    go_wp2_with fail
    go_ret
    exact ⟨rfl, HB.out⟩
  | true =>
  obtain ⟨p10, p11, p12⟩ := Hb.out.cells
  have hc := few_shows Hb.out.dfa Hb.out.fits
  go_wp2_with fail
  refine hc.mono ?_
  clear hc p10 p11 p12
  rintro e w1 ⟨⟨xb, rfl, hfb⟩, hb⟩
  have Ha := hid (Ha.out.below (hb.mono Ha.out.le))
  have Hb := hid (Hb.out.below (hb.mono Hb.out.le))
  have HB := hid (HB.out.trans (hb.mono HB.out.size))
  have HFB := hid hfb
  clear hb hfb HFA
  cases xb with
  | false =>
    go_wp2_with fail
    go_ret
    exact ⟨rfl, HB.out⟩
  | true =>
  clear HFB
  by_cases h100 : 100 < t.size
  · have h100' : (100 : Int) < (t.size : Int) := by omega
    go_wp2_with fail
    go_ret
    exact ⟨rfl, HB.out⟩
  have h100' : ¬ ((100 : Int) < (t.size : Int)) := by omega
  go_upto_region 3 with fail
  have h1000 : t.size ≤ 1000 := by omega
  clear h100 h100'
  obtain ⟨p00, p01, p02⟩ := Ha.out.cells
  have hc := takes_any Ha.out.dfa Ha.out.fits t h1000
  rw [HTA.out] at hc
  go_wp2_with fail
  refine hc.mono ?_
  clear hc p00 p01 p02
  rintro e w2 ⟨rfl, hb⟩
  have Ha := hid (Ha.out.below (hb.mono Ha.out.le))
  have Hb := hid (Hb.out.below (hb.mono Hb.out.le))
  have HB := hid (HB.out.trans (hb.mono HB.out.size))
  clear hb
  obtain ⟨p00, p01, p02⟩ := Hb.out.cells
  have hc := takes_any Hb.out.dfa Hb.out.fits t h1000
  rw [HTB.out] at hc
  go_wp2_with fail
  refine hc.mono ?_
  clear hc p00 p01 p02
  rintro e w3 ⟨rfl, hb⟩
  have Ha := hid (Ha.out.below (hb.mono Ha.out.le))
  have Hb := hid (Hb.out.below (hb.mono Hb.out.le))
  have HB := hid (HB.out.trans (hb.mono HB.out.size))
  clear hb
  go_upto_region 8 with fail
  have hzs := HB.out.size
  obtain ⟨WS, hWS⟩ : ∃ WS, WS = w3.alloc (.cells #[.func (.func 29) #[] #[], .func (.func 30) #[] #[], .func (.func 31) #[] #[], .func (.func 32) #[] #[]] 51) := ⟨_, rfl⟩
  have hb : Below w3.heap.size w3 WS := by rw [hWS]; exact (Below.refl _ _).alloc (Nat.le_refl _) _
  have HS1 := hid (show WS.heap[w3.heap.size]? = some (.cells #[.func (.func 29) #[] #[], .func (.func 30) #[] #[], .func (.func 31) #[] #[], .func (.func 32) #[] #[]] 51 (0, 0)) by rw [hWS]; exact heap_alloc_new _ _)
  rw [← hWS]
  have Ha := hid (Ha.out.below (hb.mono Ha.out.le))
  have Hb := hid (Hb.out.below (hb.mono Hb.out.le))
  have HB := hid (HB.out.trans (hb.mono HB.out.size))
  clear hb hWS hzs
  generalize w3.heap.size = S1 at *
  go_upto_region 9 with fail
  obtain ⟨Wl, hWl⟩ : ∃ Wl, Wl = WS.alloc (.cells #[.bool false, .bool true, .bool false, .bool true] 4) := ⟨_, rfl⟩
  have hb : Below WS.heap.size WS Wl := by rw [hWl]; exact (Below.refl _ _).alloc (Nat.le_refl _) _
  have HS2 := hid (show Wl.heap[WS.heap.size]? = some (.cells #[.bool false, .bool true, .bool false, .bool true] 4 (0, 0)) by rw [hWl]; exact heap_alloc_new _ _)
  have HS1 := hid ((hb.block _ (lt_of_heap HS1.out)).trans HS1.out)
  rw [← hWl]
  have Ha := hid (Ha.out.below (hb.mono Ha.out.le))
  have Hb := hid (Hb.out.below (hb.mono Hb.out.le))
  have HB := hid (HB.out.trans (hb.mono HB.out.size))
  clear hb hWl
  generalize WS.heap.size = S2 at *
  have hs1 := lt_of_heap HS1.out
  have hs2 := lt_of_heap HS2.out
  have HAl := hid Ha.out
  have HCl := hid Hb.out
  have HBw := hid HB.out
  have HBl := hid (Below.refl Wl.heap.size Wl)
  clear Ha Hb HB
  go_wp2_with fail
  go_loopw [13] (fun i wr => ∃ k : Nat, k ≤ 4 ∧ i = .int .i64 k ∧ Below Wl.heap.size Wl wr) (fun i _ => 4 - (intOf i).toNat)
  case atStart => exact ⟨0, by decide, rfl, HBl.out⟩
  case round =>
    obtain ⟨k, hk, rfl, hbl⟩ := hrel
    have HBl := hid hbl
    have Ha := hid (HAl.out.below (hbl.mono HAl.out.le))
    have Hb := hid (HCl.out.below (hbl.mono HCl.out.le))
    have HB := hid (HBw.out.trans (hbl.mono HBw.out.size))
    have hs1w : S1 < wr.heap.size := Nat.lt_of_lt_of_le hs1 hbl.size
    clear hbl
    by_cases hlt : k < 4
    · obtain ⟨fv, f, fb, hs1k, hs2k, hj, hfb⟩ : ∃ (fv : FuncId) (f : Bool → Bool → Bool) (fb : Bool), Wl.cell? ⟨S1, k, none⟩ = some (.func (.func fv) #[] #[]) ∧ Wl.cell? ⟨S2, k, none⟩ = some (.bool fb) ∧ JoinOk fv f ∧ f false true = fb := by
        match k, hlt with
        | 0, _ => exact ⟨_, _, _, cell_blk HS1.out rfl, cell_blk HS2.out rfl, jok_and, rfl⟩
        | 1, _ => exact ⟨_, _, _, cell_blk HS1.out rfl, cell_blk HS2.out rfl, jok_or, rfl⟩
        | 2, _ => exact ⟨_, _, _, cell_blk HS1.out rfl, cell_blk HS2.out rfl, jok_less, rfl⟩
        | 3, _ => exact ⟨_, _, _, cell_blk HS1.out rfl, cell_blk HS2.out rfl, jok_apart, rfl⟩
      have HJ := hid hj
      have s1 := (HBl.out.cell (p := ⟨S1, k, none⟩) hs1).trans hs1k
      have S2K := hid (fun (W : World) (h : Below Wl.heap.size Wl W) => (h.cell (p := ⟨S2, k, none⟩) hs2).trans hs2k)
      have HFB := hid hfb
      have HAD := hid Ha.out.dfa
      have HBD := hid Hb.out.dfa
      obtain ⟨p00, p01, p02⟩ := Ha.out.cells
      obtain ⟨p10, p11, p12⟩ := Hb.out.cells
      have hkI : (k : Int) < 4 := by omega
      clear hs1k hs2k hj hfb hs1
      have hs1 := hs1w
      cases hx : joinM f a b with
      | error er =>
        obtain rfl := join_err HOA.out HOB.out hx
        have HX := hid hx
        clear hx
        go_upto_region 12 with fail
        have HKP := hid (fun (W : World) (h : Below wr.heap.size wr W) => (show (fun W : World => W.cell? ⟨w.heap.size, 0, none⟩ = some (.slice ada a.cls.length cpa) ∧ W.cell? ⟨w.heap.size, 1, none⟩ = some (.slice adb a.next.length cpb) ∧ W.cell? ⟨w.heap.size, 2, none⟩ = some (.slice adc a.fin.length cpc) ∧ W.cell? ⟨w.heap.size + 1, 0, none⟩ = some (.slice ada' b.cls.length cpa') ∧ W.cell? ⟨w.heap.size + 1, 1, none⟩ = some (.slice adb' b.next.length cpb') ∧ W.cell? ⟨w.heap.size + 1, 2, none⟩ = some (.slice adc' b.fin.length cpc') ∧ W.cell? ⟨S1, k, none⟩ = some (.func (.func fv) #[] #[])) W from ⟨(h.cell (Nat.lt_of_lt_of_le Ha.out.lt Ha.out.le)).trans p00, (h.cell (Nat.lt_of_lt_of_le Ha.out.lt Ha.out.le)).trans p01, (h.cell (Nat.lt_of_lt_of_le Ha.out.lt Ha.out.le)).trans p02, (h.cell (Nat.lt_of_lt_of_le Hb.out.lt Hb.out.le)).trans p10, (h.cell (Nat.lt_of_lt_of_le Hb.out.lt Hb.out.le)).trans p11, (h.cell (Nat.lt_of_lt_of_le Hb.out.lt Hb.out.le)).trans p12, (h.cell hs1).trans s1⟩))
        have HCUR := hid ((Below.refl wr.heap.size wr).drew)
        have HS := hid (HKP.out _ HCUR.out)
        clear p00 p01 p02 p10 p11 p12 s1
        refine wp_region_held_drew (S := (fun W : World => W.cell? ⟨w.heap.size, 0, none⟩ = some (.slice ada a.cls.length cpa) ∧ W.cell? ⟨w.heap.size, 1, none⟩ = some (.slice adb a.next.length cpb) ∧ W.cell? ⟨w.heap.size, 2, none⟩ = some (.slice adc a.fin.length cpc) ∧ W.cell? ⟨w.heap.size + 1, 0, none⟩ = some (.slice ada' b.cls.length cpa') ∧ W.cell? ⟨w.heap.size + 1, 1, none⟩ = some (.slice adb' b.next.length cpb') ∧ W.cell? ⟨w.heap.size + 1, 2, none⟩ = some (.slice adc' b.fin.length cpc') ∧ W.cell? ⟨S1, k, none⟩ = some (.func (.func fv) #[] #[]))) (by kernel_rfl) HS.out (fun _ => ?_)
        refine wpAnyH_take (i := 0) (v := .slice (some ⟨S1, 0, none⟩) 4 4) rfl (by kernel_rfl) (by kernel_rfl) (by kernel_rfl) (fun _ _ _ h => h) (Or.inl ⟨by rfl, fun w hS => by go_simp⟩) HS.out ?_
        simp only [Act.put, List.getElem_toArray, List.getElem_cons_zero, List.getElem_cons_succ, List.setIfInBounds_toArray, List.set_cons_zero, List.set_cons_succ]
        refine wpAnyH_take (i := 1) (v := .int .i64 k) rfl (by kernel_rfl) (by kernel_rfl) (by kernel_rfl) (fun _ _ _ h => h) (Or.inl ⟨by rfl, fun w hS => by go_simp⟩) HS.out ?_
        simp only [Act.put, List.getElem_toArray, List.getElem_cons_zero, List.getElem_cons_succ, List.setIfInBounds_toArray, List.set_cons_zero, List.set_cons_succ]
        refine wpAnyH_take (i := 2) (v := .pointer (some ⟨S1, k, none⟩)) rfl (by kernel_rfl) (by kernel_rfl) (by kernel_rfl) (fun _ _ _ h => h) (Or.inl ⟨by rfl, fun w hS => by go_simp⟩) HS.out ?_
        simp only [Act.put, List.getElem_toArray, List.getElem_cons_zero, List.getElem_cons_succ, List.setIfInBounds_toArray, List.set_cons_zero, List.set_cons_succ]
        refine wpAnyH_take (i := 3) (v := .func (.func fv) #[] #[]) rfl (by kernel_rfl) (by kernel_rfl) (by kernel_rfl) (fun _ _ _ h => h) (Or.inl ⟨by rfl, fun w hS => by have k6 := hS.2.2.2.2.2.2; go_simp⟩) HS.out ?_
        simp only [Act.put, List.getElem_toArray, List.getElem_cons_zero, List.getElem_cons_succ, List.setIfInBounds_toArray, List.set_cons_zero, List.set_cons_succ]
        refine wpAnyH_take (i := 4) (v := .agg #[.slice ada a.cls.length cpa, .slice adb a.next.length cpb, .slice adc a.fin.length cpc]) rfl (by kernel_rfl) (by kernel_rfl) (by kernel_rfl) (fun _ _ _ h => h) (Or.inl ⟨by rfl, fun w hS => by have k0 := hS.1; have k1 := hS.2.1; have k2 := hS.2.2.1; go_simp⟩) HS.out ?_
        simp only [Act.put, List.getElem_toArray, List.getElem_cons_zero, List.getElem_cons_succ, List.setIfInBounds_toArray, List.set_cons_zero, List.set_cons_succ]
        refine wpAnyH_take (i := 5) (v := .agg #[.slice ada' b.cls.length cpa', .slice adb' b.next.length cpb', .slice adc' b.fin.length cpc']) rfl (by kernel_rfl) (by kernel_rfl) (by kernel_rfl) (fun _ _ _ h => h) (Or.inl ⟨by rfl, fun w hS => by have k3 := hS.2.2.2.1; have k4 := hS.2.2.2.2.1; have k5 := hS.2.2.2.2.2.1; go_simp⟩) HS.out ?_
        simp only [Act.put, List.getElem_toArray, List.getElem_cons_zero, List.getElem_cons_succ, List.setIfInBounds_toArray, List.set_cons_zero, List.set_cons_succ]
        refine wpAnyH_ready (rs := [6, 10]) (by kernel_rfl) (by simp) (AllReadyH.cons rfl (fun K hK => ?_) (AllReadyH.cons rfl (fun K hK => ?_) AllReadyH.nil))
        · go_simp
          refine HJ.out _ _ _ _ _ _ _ _ _ _ _ (DfaIn.frame HAD.out (F' := fun q => q < w.heap.size + 2) (fun _ h => h) (fun q hq _ => HCUR.out.block q (Nat.lt_of_lt_of_le hq Ha.out.le))) (DfaIn.frame HBD.out (F' := fun q => q < w.heap.size + 2) (fun _ h => h) (fun q hq _ => HCUR.out.block q (Nat.lt_of_lt_of_le hq Hb.out.le))) (fun q hq => Nat.lt_of_lt_of_le (Nat.lt_of_lt_of_le hq Ha.out.le) HCUR.out.size) (fun q hq => Nat.lt_of_lt_of_le (Nat.lt_of_lt_of_le hq Hb.out.le) HCUR.out.size) (HT.out _ (HB.out.trans (HCUR.out.mono HB.out.size))) _ _ _ _ ?_
          intro v w3 hp
          rw [HX.out] at hp
          obtain ⟨x1, c1, x2, c2, x3, c3, he, hd, hb⟩ := hp.open'
          cases he
          dsimp only [outX] at hd ⊢
          have HD := hid hd
          have HPB' := hid hb
          have HCUR := hid (HCUR.out.trans (hb.mono HCUR.out.size))
          have HS := hid (HKP.out _ HCUR.out)
          refine hK.out _ _ HS.out (fun _ => ?_)
          clear hK K hb hd hp
          simp only [Act.put, List.getElem_toArray, List.getElem_cons_zero, List.getElem_cons_succ, List.setIfInBounds_toArray, List.set_cons_zero, List.set_cons_succ]
          refine wpAnyH_take (i := 7) (v := .tuple #[.agg #[.slice x1 Dfa.zero.cls.length c1, .slice x2 Dfa.zero.next.length c2, .slice x3 Dfa.zero.fin.length c3], .int .i64 2]) rfl (by kernel_rfl) (by kernel_rfl) (by kernel_rfl) (fun _ _ _ h => h) (Or.inl ⟨by rfl, fun w hS => by go_simp⟩) HS.out ?_
          simp only [Act.put, List.getElem_toArray, List.getElem_cons_zero, List.getElem_cons_succ, List.setIfInBounds_toArray, List.set_cons_zero, List.set_cons_succ]
          refine wpAnyH_take (i := 8) (v := .agg #[.slice x1 Dfa.zero.cls.length c1, .slice x2 Dfa.zero.next.length c2, .slice x3 Dfa.zero.fin.length c3]) rfl (by kernel_rfl) (by kernel_rfl) (by kernel_rfl) (fun _ _ _ h => h) (Or.inl ⟨by rfl, fun w hS => by go_simp⟩) HS.out ?_
          simp only [Act.put, List.getElem_toArray, List.getElem_cons_zero, List.getElem_cons_succ, List.setIfInBounds_toArray, List.set_cons_zero, List.set_cons_succ]
          refine wpAnyH_take (i := 9) (v := .int .i64 2) rfl (by kernel_rfl) (by kernel_rfl) (by kernel_rfl) (fun _ _ _ h => h) (Or.inl ⟨by rfl, fun w hS => by go_simp⟩) HS.out ?_
          simp only [Act.put, List.getElem_toArray, List.getElem_cons_zero, List.getElem_cons_succ, List.setIfInBounds_toArray, List.set_cons_zero, List.set_cons_succ]
          refine wpAnyH_ready (rs := [10]) (by kernel_rfl) (by simp) (AllReadyH.cons rfl (fun K hK => ?_) AllReadyH.nil)
          go_simp
          have hzr : wr.heap.size ≤ w3.heap.size := HCUR.out.size
          have HPB := hid (show (w3.alloc (.cells #[.slice none 0 0, .slice none 0 0, .slice none 0 0] 30)).heap[w3.heap.size]? = some (.cells #[.slice none 0 0, .slice none 0 0, .slice none 0 0] 30 (0, 0)) from heap_alloc_new _ _)
          have HPK := hid (fun (g : Nat) (_ : wr.heap.size ≤ g) (h2 : g < w3.heap.size) => (show (w3.alloc (.cells #[.slice none 0 0, .slice none 0 0, .slice none 0 0] 30)).heap[g]? = w3.heap[g]? from alloc_old h2))
          have HPZ := hid (show w3.heap.size ≤ (w3.alloc (.cells #[.slice none 0 0, .slice none 0 0, .slice none 0 0] 30)).heap.size by simp)
          have HCUR := hid (show Below wr.heap.size wr (w3.alloc (.cells #[.slice none 0 0, .slice none 0 0, .slice none 0 0] 30)) from HCUR.out.alloc hzr _)
          have HS := hid (HKP.out _ HCUR.out)
          refine hK.out _ _ HS.out (fun _ => ?_)
          clear hK K
          obtain ⟨P, hP⟩ : ∃ P, P = w3.heap.size := ⟨_, rfl⟩
          have HPN := hid (fun (g : Nat) (_ : wr.heap.size ≤ g) (h2 : g < w3.heap.size) => (show g ≠ P by rw [hP]; exact Nat.ne_of_lt h2))
          have HPL := hid (show wr.heap.size ≤ P by rw [hP]; exact hzr)
          generalize w3.alloc (.cells #[.slice none 0 0, .slice none 0 0, .slice none 0 0] 30) = w4 at *
          have HPB : Hid (w4.heap[P]? = some (.cells #[.slice none 0 0, .slice none 0 0, .slice none 0 0] 30 (0, 0))) := hid (by rw [hP]; exact HPB.out)
          rw [← hP]
          clear hP hzr
          have d0 := cell_blk (i := 0) HPB.out rfl
          have d1 := cell_blk (i := 1) HPB.out rfl
          have d2 := cell_blk (i := 2) HPB.out rfl
          have d3 := free_box (i := 0) HPB.out
          have d4 := free_box (i := 1) HPB.out
          have d5 := free_box (i := 2) HPB.out
          refine wpAnyH_ready (rs := [11]) (by kernel_rfl) (by simp) (AllReadyH.cons rfl (fun K hK => ?_) AllReadyH.nil)
          go_simp
          have hpb := three_all (.slice x1 Dfa.zero.cls.length c1) (.slice x2 Dfa.zero.next.length c2) (.slice x3 Dfa.zero.fin.length c3) HPB.out
          have HCUR := hid (show Below wr.heap.size wr (((w4.setCell ⟨P, 0, none⟩ (.slice x1 Dfa.zero.cls.length c1)).setCell ⟨P, 1, none⟩ (.slice x2 Dfa.zero.next.length c2)).setCell ⟨P, 2, none⟩ (.slice x3 Dfa.zero.fin.length c3)) from ((HCUR.out.setCell HPL.out _).setCell HPL.out _).setCell HPL.out _)
          have HS := hid (HKP.out _ HCUR.out)
          refine hK.out _ _ HS.out (fun _ => ?_)
          clear hK K d0 d1 d2 d3 d4 d5
          have HBO := hid (ABox.born HD.out (W := (((w4.setCell ⟨P, 0, none⟩ (.slice x1 Dfa.zero.cls.length c1)).setCell ⟨P, 1, none⟩ (.slice x2 Dfa.zero.next.length c2)).setCell ⟨P, 2, none⟩ (.slice x3 Dfa.zero.fin.length c3))) (fun g h1 h2 => (heap_setCell_other _ _ _ _ (HPN.out g h1 h2)).trans ((heap_setCell_other _ _ _ _ (HPN.out g h1 h2)).trans ((heap_setCell_other _ _ _ _ (HPN.out g h1 h2)).trans (HPK.out g h1 h2)))) (by simpa using HPZ.out) hpb)
          clear hpb
          generalize (((w4.setCell ⟨P, 0, none⟩ (.slice x1 Dfa.zero.cls.length c1)).setCell ⟨P, 1, none⟩ (.slice x2 Dfa.zero.next.length c2)).setCell ⟨P, 2, none⟩ (.slice x3 Dfa.zero.fin.length c3)) = w5 at *
          refine wpAnyH_take (i := 12) (v := .int .i64 2) rfl (by kernel_rfl) (by kernel_rfl) (by kernel_rfl) (fun _ _ _ h => h) (Or.inl ⟨by rfl, fun w hS => by go_simp⟩) HS.out ?_
          simp only [Act.put, List.getElem_toArray, List.getElem_cons_zero, List.getElem_cons_succ, List.setIfInBounds_toArray, List.set_cons_zero, List.set_cons_succ]
          refine wpAnyH_done (by kernel_rfl) ?_ _
          have Ha := hid (Ha.out.below (HCUR.out.mono Ha.out.le))
          have Hb := hid (Hb.out.below (HCUR.out.mono Hb.out.le))
          have HBl := hid (HBl.out.trans (HCUR.out.mono HBl.out.size))
          have HB := hid (HB.out.trans (HCUR.out.mono HB.out.size))
          go_wp2_with fail
          refine And.intro ?_ ?_
          · exact ⟨k + 1, by omega, by go_num, HBl.out⟩
          · simp [intOf]; omega
        · go_simp
          have HPB := hid (show ((wr.alloc (.cells #[.slice none 0 0, .slice none 0 0, .slice none 0 0] 30)).drew).heap[wr.heap.size]? = some (.cells #[.slice none 0 0, .slice none 0 0, .slice none 0 0] 30 (0, 0)) from heap_alloc_new _ _)
          have HZB := hid (show ((wr.alloc (.cells #[.slice none 0 0, .slice none 0 0, .slice none 0 0] 30)).drew).heap.size = wr.heap.size + 1 by simp)
          have HCUR := hid (show Below wr.heap.size wr ((wr.alloc (.cells #[.slice none 0 0, .slice none 0 0, .slice none 0 0] 30)).drew) from ((Below.refl _ _).alloc (Nat.le_refl _) _).drew)
          have HS := hid (HKP.out _ HCUR.out)
          refine hK.out _ _ HS.out (fun _ => ?_)
          clear hK K
          generalize (wr.alloc (.cells #[.slice none 0 0, .slice none 0 0, .slice none 0 0] 30)).drew = wb at *
          refine wpAnyH_ready (rs := [6]) (by kernel_rfl) (by simp) (AllReadyH.cons rfl (fun K hK => ?_) AllReadyH.nil)
          go_simp
          refine HJ.out _ _ _ _ _ _ _ _ _ _ _ (DfaIn.frame HAD.out (F' := fun q => q < w.heap.size + 2) (fun _ h => h) (fun q hq _ => HCUR.out.block q (Nat.lt_of_lt_of_le hq Ha.out.le))) (DfaIn.frame HBD.out (F' := fun q => q < w.heap.size + 2) (fun _ h => h) (fun q hq _ => HCUR.out.block q (Nat.lt_of_lt_of_le hq Hb.out.le))) (fun q hq => Nat.lt_of_lt_of_le (Nat.lt_of_lt_of_le hq Ha.out.le) HCUR.out.size) (fun q hq => Nat.lt_of_lt_of_le (Nat.lt_of_lt_of_le hq Hb.out.le) HCUR.out.size) (HT.out _ (HB.out.trans (HCUR.out.mono HB.out.size))) _ _ _ _ ?_
          intro v w3 hp
          rw [HX.out] at hp
          obtain ⟨x1, c1, x2, c2, x3, c3, he, hd, hb⟩ := hp.open'
          cases he
          dsimp only [outX] at hd ⊢
          have HD := hid hd
          have HPB' := hid hb
          have HCUR := hid (HCUR.out.trans (hb.mono HCUR.out.size))
          have HS := hid (HKP.out _ HCUR.out)
          refine hK.out _ _ HS.out (fun _ => ?_)
          clear hK K hb hd hp
          simp only [Act.put, List.getElem_toArray, List.getElem_cons_zero, List.getElem_cons_succ, List.setIfInBounds_toArray, List.set_cons_zero, List.set_cons_succ]
          refine wpAnyH_take (i := 7) (v := .tuple #[.agg #[.slice x1 Dfa.zero.cls.length c1, .slice x2 Dfa.zero.next.length c2, .slice x3 Dfa.zero.fin.length c3], .int .i64 2]) rfl (by kernel_rfl) (by kernel_rfl) (by kernel_rfl) (fun _ _ _ h => h) (Or.inl ⟨by rfl, fun w hS => by go_simp⟩) HS.out ?_
          simp only [Act.put, List.getElem_toArray, List.getElem_cons_zero, List.getElem_cons_succ, List.setIfInBounds_toArray, List.set_cons_zero, List.set_cons_succ]
          refine wpAnyH_take (i := 8) (v := .agg #[.slice x1 Dfa.zero.cls.length c1, .slice x2 Dfa.zero.next.length c2, .slice x3 Dfa.zero.fin.length c3]) rfl (by kernel_rfl) (by kernel_rfl) (by kernel_rfl) (fun _ _ _ h => h) (Or.inl ⟨by rfl, fun w hS => by go_simp⟩) HS.out ?_
          simp only [Act.put, List.getElem_toArray, List.getElem_cons_zero, List.getElem_cons_succ, List.setIfInBounds_toArray, List.set_cons_zero, List.set_cons_succ]
          refine wpAnyH_take (i := 9) (v := .int .i64 2) rfl (by kernel_rfl) (by kernel_rfl) (by kernel_rfl) (fun _ _ _ h => h) (Or.inl ⟨by rfl, fun w hS => by go_simp⟩) HS.out ?_
          simp only [Act.put, List.getElem_toArray, List.getElem_cons_zero, List.getElem_cons_succ, List.setIfInBounds_toArray, List.set_cons_zero, List.set_cons_succ]
          obtain ⟨P, hP⟩ : ∃ P, P = wr.heap.size := ⟨_, rfl⟩
          have HPB : Hid (w3.heap[P]? = some (.cells #[.slice none 0 0, .slice none 0 0, .slice none 0 0] 30 (0, 0))) := hid (by rw [hP]; exact (HPB'.out.block wr.heap.size (by rw [HZB.out]; omega)).trans HPB.out)
          have HPN := hid (fun (g : Nat) (h1 : wb.heap.size ≤ g) (_ : g < w3.heap.size) => (show g ≠ P by have := HZB.out; omega))
          have HPL := hid (show wr.heap.size ≤ P by rw [hP]; exact Nat.le_refl _)
          obtain ⟨w4, hw4⟩ : ∃ w4, w4 = w3 := ⟨_, rfl⟩
          have HPB : Hid (w4.heap[P]? = some (.cells #[.slice none 0 0, .slice none 0 0, .slice none 0 0] 30 (0, 0))) := hid (by rw [hw4]; exact HPB.out)
          have HPK := hid (fun (g : Nat) (_ : wb.heap.size ≤ g) (_ : g < w3.heap.size) => (show w4.heap[g]? = w3.heap[g]? by rw [hw4]))
          have HPZ := hid (show w3.heap.size ≤ w4.heap.size by rw [hw4]; exact Nat.le_refl _)
          have HCUR : Hid (Below wr.heap.size wr w4) := hid (by rw [hw4]; exact HCUR.out)
          have HS := hid (HKP.out _ HCUR.out)
          rw [← hP, ← hw4]
          clear hP hw4
          have d0 := cell_blk (i := 0) HPB.out rfl
          have d1 := cell_blk (i := 1) HPB.out rfl
          have d2 := cell_blk (i := 2) HPB.out rfl
          have d3 := free_box (i := 0) HPB.out
          have d4 := free_box (i := 1) HPB.out
          have d5 := free_box (i := 2) HPB.out
          refine wpAnyH_ready (rs := [11]) (by kernel_rfl) (by simp) (AllReadyH.cons rfl (fun K hK => ?_) AllReadyH.nil)
          go_simp
          have hpb := three_all (.slice x1 Dfa.zero.cls.length c1) (.slice x2 Dfa.zero.next.length c2) (.slice x3 Dfa.zero.fin.length c3) HPB.out
          have HCUR := hid (show Below wr.heap.size wr (((w4.setCell ⟨P, 0, none⟩ (.slice x1 Dfa.zero.cls.length c1)).setCell ⟨P, 1, none⟩ (.slice x2 Dfa.zero.next.length c2)).setCell ⟨P, 2, none⟩ (.slice x3 Dfa.zero.fin.length c3)) from ((HCUR.out.setCell HPL.out _).setCell HPL.out _).setCell HPL.out _)
          have HS := hid (HKP.out _ HCUR.out)
          refine hK.out _ _ HS.out (fun _ => ?_)
          clear hK K d0 d1 d2 d3 d4 d5
          have HBO := hid (ABox.born HD.out (W := (((w4.setCell ⟨P, 0, none⟩ (.slice x1 Dfa.zero.cls.length c1)).setCell ⟨P, 1, none⟩ (.slice x2 Dfa.zero.next.length c2)).setCell ⟨P, 2, none⟩ (.slice x3 Dfa.zero.fin.length c3))) (fun g h1 h2 => (heap_setCell_other _ _ _ _ (HPN.out g h1 h2)).trans ((heap_setCell_other _ _ _ _ (HPN.out g h1 h2)).trans ((heap_setCell_other _ _ _ _ (HPN.out g h1 h2)).trans (HPK.out g h1 h2)))) (by simpa using HPZ.out) hpb)
          clear hpb
          generalize (((w4.setCell ⟨P, 0, none⟩ (.slice x1 Dfa.zero.cls.length c1)).setCell ⟨P, 1, none⟩ (.slice x2 Dfa.zero.next.length c2)).setCell ⟨P, 2, none⟩ (.slice x3 Dfa.zero.fin.length c3)) = w5 at *
          refine wpAnyH_take (i := 12) (v := .int .i64 2) rfl (by kernel_rfl) (by kernel_rfl) (by kernel_rfl) (fun _ _ _ h => h) (Or.inl ⟨by rfl, fun w hS => by go_simp⟩) HS.out ?_
          simp only [Act.put, List.getElem_toArray, List.getElem_cons_zero, List.getElem_cons_succ, List.setIfInBounds_toArray, List.set_cons_zero, List.set_cons_succ]
          refine wpAnyH_done (by kernel_rfl) ?_ _
          have Ha := hid (Ha.out.below (HCUR.out.mono Ha.out.le))
          have Hb := hid (Hb.out.below (HCUR.out.mono Hb.out.le))
          have HBl := hid (HBl.out.trans (HCUR.out.mono HBl.out.size))
          have HB := hid (HB.out.trans (HCUR.out.mono HB.out.size))
          go_wp2_with fail
          refine And.intro ?_ ?_
          · exact ⟨k + 1, by omega, by go_num, HBl.out⟩
          · simp [intOf]; omega
      | ok d =>
        have HTK := hid (show takesM d t.data.toList = (fb, 0) by rw [(join_law hx).2, HTA.out, HTB.out, ← HFB.out])
        have HX := hid hx
        clear hx
        go_upto_region 12 with fail
        have HKP := hid (fun (W : World) (h : Below wr.heap.size wr W) => (show (fun W : World => W.cell? ⟨w.heap.size, 0, none⟩ = some (.slice ada a.cls.length cpa) ∧ W.cell? ⟨w.heap.size, 1, none⟩ = some (.slice adb a.next.length cpb) ∧ W.cell? ⟨w.heap.size, 2, none⟩ = some (.slice adc a.fin.length cpc) ∧ W.cell? ⟨w.heap.size + 1, 0, none⟩ = some (.slice ada' b.cls.length cpa') ∧ W.cell? ⟨w.heap.size + 1, 1, none⟩ = some (.slice adb' b.next.length cpb') ∧ W.cell? ⟨w.heap.size + 1, 2, none⟩ = some (.slice adc' b.fin.length cpc') ∧ W.cell? ⟨S1, k, none⟩ = some (.func (.func fv) #[] #[])) W from ⟨(h.cell (Nat.lt_of_lt_of_le Ha.out.lt Ha.out.le)).trans p00, (h.cell (Nat.lt_of_lt_of_le Ha.out.lt Ha.out.le)).trans p01, (h.cell (Nat.lt_of_lt_of_le Ha.out.lt Ha.out.le)).trans p02, (h.cell (Nat.lt_of_lt_of_le Hb.out.lt Hb.out.le)).trans p10, (h.cell (Nat.lt_of_lt_of_le Hb.out.lt Hb.out.le)).trans p11, (h.cell (Nat.lt_of_lt_of_le Hb.out.lt Hb.out.le)).trans p12, (h.cell hs1).trans s1⟩))
        have HCUR := hid ((Below.refl wr.heap.size wr).drew)
        have HS := hid (HKP.out _ HCUR.out)
        clear p00 p01 p02 p10 p11 p12 s1
        refine wp_region_held_drew (S := (fun W : World => W.cell? ⟨w.heap.size, 0, none⟩ = some (.slice ada a.cls.length cpa) ∧ W.cell? ⟨w.heap.size, 1, none⟩ = some (.slice adb a.next.length cpb) ∧ W.cell? ⟨w.heap.size, 2, none⟩ = some (.slice adc a.fin.length cpc) ∧ W.cell? ⟨w.heap.size + 1, 0, none⟩ = some (.slice ada' b.cls.length cpa') ∧ W.cell? ⟨w.heap.size + 1, 1, none⟩ = some (.slice adb' b.next.length cpb') ∧ W.cell? ⟨w.heap.size + 1, 2, none⟩ = some (.slice adc' b.fin.length cpc') ∧ W.cell? ⟨S1, k, none⟩ = some (.func (.func fv) #[] #[]))) (by kernel_rfl) HS.out (fun _ => ?_)
        refine wpAnyH_take (i := 0) (v := .slice (some ⟨S1, 0, none⟩) 4 4) rfl (by kernel_rfl) (by kernel_rfl) (by kernel_rfl) (fun _ _ _ h => h) (Or.inl ⟨by rfl, fun w hS => by go_simp⟩) HS.out ?_
        simp only [Act.put, List.getElem_toArray, List.getElem_cons_zero, List.getElem_cons_succ, List.setIfInBounds_toArray, List.set_cons_zero, List.set_cons_succ]
        refine wpAnyH_take (i := 1) (v := .int .i64 k) rfl (by kernel_rfl) (by kernel_rfl) (by kernel_rfl) (fun _ _ _ h => h) (Or.inl ⟨by rfl, fun w hS => by go_simp⟩) HS.out ?_
        simp only [Act.put, List.getElem_toArray, List.getElem_cons_zero, List.getElem_cons_succ, List.setIfInBounds_toArray, List.set_cons_zero, List.set_cons_succ]
        refine wpAnyH_take (i := 2) (v := .pointer (some ⟨S1, k, none⟩)) rfl (by kernel_rfl) (by kernel_rfl) (by kernel_rfl) (fun _ _ _ h => h) (Or.inl ⟨by rfl, fun w hS => by go_simp⟩) HS.out ?_
        simp only [Act.put, List.getElem_toArray, List.getElem_cons_zero, List.getElem_cons_succ, List.setIfInBounds_toArray, List.set_cons_zero, List.set_cons_succ]
        refine wpAnyH_take (i := 3) (v := .func (.func fv) #[] #[]) rfl (by kernel_rfl) (by kernel_rfl) (by kernel_rfl) (fun _ _ _ h => h) (Or.inl ⟨by rfl, fun w hS => by have k6 := hS.2.2.2.2.2.2; go_simp⟩) HS.out ?_
        simp only [Act.put, List.getElem_toArray, List.getElem_cons_zero, List.getElem_cons_succ, List.setIfInBounds_toArray, List.set_cons_zero, List.set_cons_succ]
        refine wpAnyH_take (i := 4) (v := .agg #[.slice ada a.cls.length cpa, .slice adb a.next.length cpb, .slice adc a.fin.length cpc]) rfl (by kernel_rfl) (by kernel_rfl) (by kernel_rfl) (fun _ _ _ h => h) (Or.inl ⟨by rfl, fun w hS => by have k0 := hS.1; have k1 := hS.2.1; have k2 := hS.2.2.1; go_simp⟩) HS.out ?_
        simp only [Act.put, List.getElem_toArray, List.getElem_cons_zero, List.getElem_cons_succ, List.setIfInBounds_toArray, List.set_cons_zero, List.set_cons_succ]
        refine wpAnyH_take (i := 5) (v := .agg #[.slice ada' b.cls.length cpa', .slice adb' b.next.length cpb', .slice adc' b.fin.length cpc']) rfl (by kernel_rfl) (by kernel_rfl) (by kernel_rfl) (fun _ _ _ h => h) (Or.inl ⟨by rfl, fun w hS => by have k3 := hS.2.2.2.1; have k4 := hS.2.2.2.2.1; have k5 := hS.2.2.2.2.2.1; go_simp⟩) HS.out ?_
        simp only [Act.put, List.getElem_toArray, List.getElem_cons_zero, List.getElem_cons_succ, List.setIfInBounds_toArray, List.set_cons_zero, List.set_cons_succ]
        refine wpAnyH_ready (rs := [6, 10]) (by kernel_rfl) (by simp) (AllReadyH.cons rfl (fun K hK => ?_) (AllReadyH.cons rfl (fun K hK => ?_) AllReadyH.nil))
        · go_simp
          refine HJ.out _ _ _ _ _ _ _ _ _ _ _ (DfaIn.frame HAD.out (F' := fun q => q < w.heap.size + 2) (fun _ h => h) (fun q hq _ => HCUR.out.block q (Nat.lt_of_lt_of_le hq Ha.out.le))) (DfaIn.frame HBD.out (F' := fun q => q < w.heap.size + 2) (fun _ h => h) (fun q hq _ => HCUR.out.block q (Nat.lt_of_lt_of_le hq Hb.out.le))) (fun q hq => Nat.lt_of_lt_of_le (Nat.lt_of_lt_of_le hq Ha.out.le) HCUR.out.size) (fun q hq => Nat.lt_of_lt_of_le (Nat.lt_of_lt_of_le hq Hb.out.le) HCUR.out.size) (HT.out _ (HB.out.trans (HCUR.out.mono HB.out.size))) _ _ _ _ ?_
          intro v w3 hp
          rw [HX.out] at hp
          obtain ⟨x1, c1, x2, c2, x3, c3, he, hd, hb⟩ := hp.open'
          cases he
          dsimp only [outX] at hd ⊢
          have HD := hid hd
          have HPB' := hid hb
          have HCUR := hid (HCUR.out.trans (hb.mono HCUR.out.size))
          have HS := hid (HKP.out _ HCUR.out)
          refine hK.out _ _ HS.out (fun _ => ?_)
          clear hK K hb hd hp
          simp only [Act.put, List.getElem_toArray, List.getElem_cons_zero, List.getElem_cons_succ, List.setIfInBounds_toArray, List.set_cons_zero, List.set_cons_succ]
          refine wpAnyH_take (i := 7) (v := .tuple #[.agg #[.slice x1 d.cls.length c1, .slice x2 d.next.length c2, .slice x3 d.fin.length c3], .int .i64 0]) rfl (by kernel_rfl) (by kernel_rfl) (by kernel_rfl) (fun _ _ _ h => h) (Or.inl ⟨by rfl, fun w hS => by go_simp⟩) HS.out ?_
          simp only [Act.put, List.getElem_toArray, List.getElem_cons_zero, List.getElem_cons_succ, List.setIfInBounds_toArray, List.set_cons_zero, List.set_cons_succ]
          refine wpAnyH_take (i := 8) (v := .agg #[.slice x1 d.cls.length c1, .slice x2 d.next.length c2, .slice x3 d.fin.length c3]) rfl (by kernel_rfl) (by kernel_rfl) (by kernel_rfl) (fun _ _ _ h => h) (Or.inl ⟨by rfl, fun w hS => by go_simp⟩) HS.out ?_
          simp only [Act.put, List.getElem_toArray, List.getElem_cons_zero, List.getElem_cons_succ, List.setIfInBounds_toArray, List.set_cons_zero, List.set_cons_succ]
          refine wpAnyH_take (i := 9) (v := .int .i64 0) rfl (by kernel_rfl) (by kernel_rfl) (by kernel_rfl) (fun _ _ _ h => h) (Or.inl ⟨by rfl, fun w hS => by go_simp⟩) HS.out ?_
          simp only [Act.put, List.getElem_toArray, List.getElem_cons_zero, List.getElem_cons_succ, List.setIfInBounds_toArray, List.set_cons_zero, List.set_cons_succ]
          refine wpAnyH_ready (rs := [10]) (by kernel_rfl) (by simp) (AllReadyH.cons rfl (fun K hK => ?_) AllReadyH.nil)
          go_simp
          have hzr : wr.heap.size ≤ w3.heap.size := HCUR.out.size
          have HPB := hid (show (w3.alloc (.cells #[.slice none 0 0, .slice none 0 0, .slice none 0 0] 30)).heap[w3.heap.size]? = some (.cells #[.slice none 0 0, .slice none 0 0, .slice none 0 0] 30 (0, 0)) from heap_alloc_new _ _)
          have HPK := hid (fun (g : Nat) (_ : wr.heap.size ≤ g) (h2 : g < w3.heap.size) => (show (w3.alloc (.cells #[.slice none 0 0, .slice none 0 0, .slice none 0 0] 30)).heap[g]? = w3.heap[g]? from alloc_old h2))
          have HPZ := hid (show w3.heap.size ≤ (w3.alloc (.cells #[.slice none 0 0, .slice none 0 0, .slice none 0 0] 30)).heap.size by simp)
          have HCUR := hid (show Below wr.heap.size wr (w3.alloc (.cells #[.slice none 0 0, .slice none 0 0, .slice none 0 0] 30)) from HCUR.out.alloc hzr _)
          have HS := hid (HKP.out _ HCUR.out)
          refine hK.out _ _ HS.out (fun _ => ?_)
          clear hK K
          obtain ⟨P, hP⟩ : ∃ P, P = w3.heap.size := ⟨_, rfl⟩
          have HPN := hid (fun (g : Nat) (_ : wr.heap.size ≤ g) (h2 : g < w3.heap.size) => (show g ≠ P by rw [hP]; exact Nat.ne_of_lt h2))
          have HPL := hid (show wr.heap.size ≤ P by rw [hP]; exact hzr)
          generalize w3.alloc (.cells #[.slice none 0 0, .slice none 0 0, .slice none 0 0] 30) = w4 at *
          have HPB : Hid (w4.heap[P]? = some (.cells #[.slice none 0 0, .slice none 0 0, .slice none 0 0] 30 (0, 0))) := hid (by rw [hP]; exact HPB.out)
          rw [← hP]
          clear hP hzr
          have d0 := cell_blk (i := 0) HPB.out rfl
          have d1 := cell_blk (i := 1) HPB.out rfl
          have d2 := cell_blk (i := 2) HPB.out rfl
          have d3 := free_box (i := 0) HPB.out
          have d4 := free_box (i := 1) HPB.out
          have d5 := free_box (i := 2) HPB.out
          refine wpAnyH_ready (rs := [11]) (by kernel_rfl) (by simp) (AllReadyH.cons rfl (fun K hK => ?_) AllReadyH.nil)
          go_simp
          have hpb := three_all (.slice x1 d.cls.length c1) (.slice x2 d.next.length c2) (.slice x3 d.fin.length c3) HPB.out
          have HCUR := hid (show Below wr.heap.size wr (((w4.setCell ⟨P, 0, none⟩ (.slice x1 d.cls.length c1)).setCell ⟨P, 1, none⟩ (.slice x2 d.next.length c2)).setCell ⟨P, 2, none⟩ (.slice x3 d.fin.length c3)) from ((HCUR.out.setCell HPL.out _).setCell HPL.out _).setCell HPL.out _)
          have HS := hid (HKP.out _ HCUR.out)
          refine hK.out _ _ HS.out (fun _ => ?_)
          clear hK K d0 d1 d2 d3 d4 d5
          have HBO := hid (ABox.born HD.out (W := (((w4.setCell ⟨P, 0, none⟩ (.slice x1 d.cls.length c1)).setCell ⟨P, 1, none⟩ (.slice x2 d.next.length c2)).setCell ⟨P, 2, none⟩ (.slice x3 d.fin.length c3))) (fun g h1 h2 => (heap_setCell_other _ _ _ _ (HPN.out g h1 h2)).trans ((heap_setCell_other _ _ _ _ (HPN.out g h1 h2)).trans ((heap_setCell_other _ _ _ _ (HPN.out g h1 h2)).trans (HPK.out g h1 h2)))) (by simpa using HPZ.out) hpb)
          clear hpb
          generalize (((w4.setCell ⟨P, 0, none⟩ (.slice x1 d.cls.length c1)).setCell ⟨P, 1, none⟩ (.slice x2 d.next.length c2)).setCell ⟨P, 2, none⟩ (.slice x3 d.fin.length c3)) = w5 at *
          refine wpAnyH_take (i := 12) (v := .int .i64 0) rfl (by kernel_rfl) (by kernel_rfl) (by kernel_rfl) (fun _ _ _ h => h) (Or.inl ⟨by rfl, fun w hS => by go_simp⟩) HS.out ?_
          simp only [Act.put, List.getElem_toArray, List.getElem_cons_zero, List.getElem_cons_succ, List.setIfInBounds_toArray, List.set_cons_zero, List.set_cons_succ]
          refine wpAnyH_done (by kernel_rfl) ?_ _
          have Ha := hid (Ha.out.below (HCUR.out.mono Ha.out.le))
          have Hb := hid (Hb.out.below (HCUR.out.mono Hb.out.le))
          have HBl := hid (HBl.out.trans (HCUR.out.mono HBl.out.size))
          have HB := hid (HB.out.trans (HCUR.out.mono HB.out.size))
          obtain ⟨q0, q1, q2⟩ := HBO.out.cells
          have hc := takes_any HBO.out.dfa HBO.out.fits t h1000
          rw [HTK.out] at hc
          go_wp2_with fail
          refine hc.mono ?_
          clear hc q0 q1 q2
          rintro e w6 ⟨rfl, hb6⟩
          have HBl := hid (HBl.out.trans (hb6.mono HBl.out.size))
          clear hb6
          have s2 := S2K.out w6 HBl.out
          clear HFB HTK
          cases fb
          all_goals go_wp2_with fail
          all_goals refine And.intro ?_ ?_
          all_goals first
            | exact ⟨k + 1, by omega, by go_num, HBl.out⟩
            | (simp [intOf]; omega)
        · go_simp
          have HPB := hid (show ((wr.alloc (.cells #[.slice none 0 0, .slice none 0 0, .slice none 0 0] 30)).drew).heap[wr.heap.size]? = some (.cells #[.slice none 0 0, .slice none 0 0, .slice none 0 0] 30 (0, 0)) from heap_alloc_new _ _)
          have HZB := hid (show ((wr.alloc (.cells #[.slice none 0 0, .slice none 0 0, .slice none 0 0] 30)).drew).heap.size = wr.heap.size + 1 by simp)
          have HCUR := hid (show Below wr.heap.size wr ((wr.alloc (.cells #[.slice none 0 0, .slice none 0 0, .slice none 0 0] 30)).drew) from ((Below.refl _ _).alloc (Nat.le_refl _) _).drew)
          have HS := hid (HKP.out _ HCUR.out)
          refine hK.out _ _ HS.out (fun _ => ?_)
          clear hK K
          generalize (wr.alloc (.cells #[.slice none 0 0, .slice none 0 0, .slice none 0 0] 30)).drew = wb at *
          refine wpAnyH_ready (rs := [6]) (by kernel_rfl) (by simp) (AllReadyH.cons rfl (fun K hK => ?_) AllReadyH.nil)
          go_simp
          refine HJ.out _ _ _ _ _ _ _ _ _ _ _ (DfaIn.frame HAD.out (F' := fun q => q < w.heap.size + 2) (fun _ h => h) (fun q hq _ => HCUR.out.block q (Nat.lt_of_lt_of_le hq Ha.out.le))) (DfaIn.frame HBD.out (F' := fun q => q < w.heap.size + 2) (fun _ h => h) (fun q hq _ => HCUR.out.block q (Nat.lt_of_lt_of_le hq Hb.out.le))) (fun q hq => Nat.lt_of_lt_of_le (Nat.lt_of_lt_of_le hq Ha.out.le) HCUR.out.size) (fun q hq => Nat.lt_of_lt_of_le (Nat.lt_of_lt_of_le hq Hb.out.le) HCUR.out.size) (HT.out _ (HB.out.trans (HCUR.out.mono HB.out.size))) _ _ _ _ ?_
          intro v w3 hp
          rw [HX.out] at hp
          obtain ⟨x1, c1, x2, c2, x3, c3, he, hd, hb⟩ := hp.open'
          cases he
          dsimp only [outX] at hd ⊢
          have HD := hid hd
          have HPB' := hid hb
          have HCUR := hid (HCUR.out.trans (hb.mono HCUR.out.size))
          have HS := hid (HKP.out _ HCUR.out)
          refine hK.out _ _ HS.out (fun _ => ?_)
          clear hK K hb hd hp
          simp only [Act.put, List.getElem_toArray, List.getElem_cons_zero, List.getElem_cons_succ, List.setIfInBounds_toArray, List.set_cons_zero, List.set_cons_succ]
          refine wpAnyH_take (i := 7) (v := .tuple #[.agg #[.slice x1 d.cls.length c1, .slice x2 d.next.length c2, .slice x3 d.fin.length c3], .int .i64 0]) rfl (by kernel_rfl) (by kernel_rfl) (by kernel_rfl) (fun _ _ _ h => h) (Or.inl ⟨by rfl, fun w hS => by go_simp⟩) HS.out ?_
          simp only [Act.put, List.getElem_toArray, List.getElem_cons_zero, List.getElem_cons_succ, List.setIfInBounds_toArray, List.set_cons_zero, List.set_cons_succ]
          refine wpAnyH_take (i := 8) (v := .agg #[.slice x1 d.cls.length c1, .slice x2 d.next.length c2, .slice x3 d.fin.length c3]) rfl (by kernel_rfl) (by kernel_rfl) (by kernel_rfl) (fun _ _ _ h => h) (Or.inl ⟨by rfl, fun w hS => by go_simp⟩) HS.out ?_
          simp only [Act.put, List.getElem_toArray, List.getElem_cons_zero, List.getElem_cons_succ, List.setIfInBounds_toArray, List.set_cons_zero, List.set_cons_succ]
          refine wpAnyH_take (i := 9) (v := .int .i64 0) rfl (by kernel_rfl) (by kernel_rfl) (by kernel_rfl) (fun _ _ _ h => h) (Or.inl ⟨by rfl, fun w hS => by go_simp⟩) HS.out ?_
          simp only [Act.put, List.getElem_toArray, List.getElem_cons_zero, List.getElem_cons_succ, List.setIfInBounds_toArray, List.set_cons_zero, List.set_cons_succ]
          obtain ⟨P, hP⟩ : ∃ P, P = wr.heap.size := ⟨_, rfl⟩
          have HPB : Hid (w3.heap[P]? = some (.cells #[.slice none 0 0, .slice none 0 0, .slice none 0 0] 30 (0, 0))) := hid (by rw [hP]; exact (HPB'.out.block wr.heap.size (by rw [HZB.out]; omega)).trans HPB.out)
          have HPN := hid (fun (g : Nat) (h1 : wb.heap.size ≤ g) (_ : g < w3.heap.size) => (show g ≠ P by have := HZB.out; omega))
          have HPL := hid (show wr.heap.size ≤ P by rw [hP]; exact Nat.le_refl _)
          obtain ⟨w4, hw4⟩ : ∃ w4, w4 = w3 := ⟨_, rfl⟩
          have HPB : Hid (w4.heap[P]? = some (.cells #[.slice none 0 0, .slice none 0 0, .slice none 0 0] 30 (0, 0))) := hid (by rw [hw4]; exact HPB.out)
          have HPK := hid (fun (g : Nat) (_ : wb.heap.size ≤ g) (_ : g < w3.heap.size) => (show w4.heap[g]? = w3.heap[g]? by rw [hw4]))
          have HPZ := hid (show w3.heap.size ≤ w4.heap.size by rw [hw4]; exact Nat.le_refl _)
          have HCUR : Hid (Below wr.heap.size wr w4) := hid (by rw [hw4]; exact HCUR.out)
          have HS := hid (HKP.out _ HCUR.out)
          rw [← hP, ← hw4]
          clear hP hw4
          have d0 := cell_blk (i := 0) HPB.out rfl
          have d1 := cell_blk (i := 1) HPB.out rfl
          have d2 := cell_blk (i := 2) HPB.out rfl
          have d3 := free_box (i := 0) HPB.out
          have d4 := free_box (i := 1) HPB.out
          have d5 := free_box (i := 2) HPB.out
          refine wpAnyH_ready (rs := [11]) (by kernel_rfl) (by simp) (AllReadyH.cons rfl (fun K hK => ?_) AllReadyH.nil)
          go_simp
          have hpb := three_all (.slice x1 d.cls.length c1) (.slice x2 d.next.length c2) (.slice x3 d.fin.length c3) HPB.out
          have HCUR := hid (show Below wr.heap.size wr (((w4.setCell ⟨P, 0, none⟩ (.slice x1 d.cls.length c1)).setCell ⟨P, 1, none⟩ (.slice x2 d.next.length c2)).setCell ⟨P, 2, none⟩ (.slice x3 d.fin.length c3)) from ((HCUR.out.setCell HPL.out _).setCell HPL.out _).setCell HPL.out _)
          have HS := hid (HKP.out _ HCUR.out)
          refine hK.out _ _ HS.out (fun _ => ?_)
          clear hK K d0 d1 d2 d3 d4 d5
          have HBO := hid (ABox.born HD.out (W := (((w4.setCell ⟨P, 0, none⟩ (.slice x1 d.cls.length c1)).setCell ⟨P, 1, none⟩ (.slice x2 d.next.length c2)).setCell ⟨P, 2, none⟩ (.slice x3 d.fin.length c3))) (fun g h1 h2 => (heap_setCell_other _ _ _ _ (HPN.out g h1 h2)).trans ((heap_setCell_other _ _ _ _ (HPN.out g h1 h2)).trans ((heap_setCell_other _ _ _ _ (HPN.out g h1 h2)).trans (HPK.out g h1 h2)))) (by simpa using HPZ.out) hpb)
          clear hpb
          generalize (((w4.setCell ⟨P, 0, none⟩ (.slice x1 d.cls.length c1)).setCell ⟨P, 1, none⟩ (.slice x2 d.next.length c2)).setCell ⟨P, 2, none⟩ (.slice x3 d.fin.length c3)) = w5 at *
          refine wpAnyH_take (i := 12) (v := .int .i64 0) rfl (by kernel_rfl) (by kernel_rfl) (by kernel_rfl) (fun _ _ _ h => h) (Or.inl ⟨by rfl, fun w hS => by go_simp⟩) HS.out ?_
          simp only [Act.put, List.getElem_toArray, List.getElem_cons_zero, List.getElem_cons_succ, List.setIfInBounds_toArray, List.set_cons_zero, List.set_cons_succ]
          refine wpAnyH_done (by kernel_rfl) ?_ _
          have Ha := hid (Ha.out.below (HCUR.out.mono Ha.out.le))
          have Hb := hid (Hb.out.below (HCUR.out.mono Hb.out.le))
          have HBl := hid (HBl.out.trans (HCUR.out.mono HBl.out.size))
          have HB := hid (HB.out.trans (HCUR.out.mono HB.out.size))
          obtain ⟨q0, q1, q2⟩ := HBO.out.cells
          have hc := takes_any HBO.out.dfa HBO.out.fits t h1000
          rw [HTK.out] at hc
          go_wp2_with fail
          refine hc.mono ?_
          clear hc q0 q1 q2
          rintro e w6 ⟨rfl, hb6⟩
          have HBl := hid (HBl.out.trans (hb6.mono HBl.out.size))
          clear hb6
          have s2 := S2K.out w6 HBl.out
          clear HFB HTK
          cases fb
          all_goals go_wp2_with fail
          all_goals refine And.intro ?_ ?_
          all_goals first
            | exact ⟨k + 1, by omega, by go_num, HBl.out⟩
            | (simp [intOf]; omega)
    · have hk4 : ¬ ((k : Int) < 4) := by omega
      clear hlt hk
      obtain ⟨dk, hdk⟩ := not_some HOA.out
      have htk := (not_law hdk).2.2.2.2.2
      have HNK := hid hdk
      have HTK := hid (show takesM dk t.data.toList = (!false, 0) by rw [htk, HTA.out])
      clear hdk htk
      go_upto_region 17 with fail
      obtain ⟨p00, p01, p02⟩ := Ha.out.cells
      have hc := bnot_any Ha.out.dfa Ha.out.fits
      rw [HNK.out] at hc
      go_wp2_with fail
      refine hc.mono ?_
      clear hc p00 p01 p02
      rintro e w21 hp
      obtain ⟨x1, c1, x2, c2, x3, c3, rfl, hd, hb⟩ := hp.open'
      rw [show outX (Except.ok dk) = (dk, 0) from rfl] at hd ⊢
      dsimp only at hd ⊢
      have HD := hid hd
      have Ha := hid (Ha.out.below (hb.mono Ha.out.le))
      have HB := hid (HB.out.trans (hb.mono HB.out.size))
      clear hd hb hp
      go_upto_region 18 with fail
      have hA := ABox.new HD.out
      generalize hW : w21.alloc (.cells #[.slice x1 dk.cls.length c1, .slice x2 dk.next.length c2, .slice x3 dk.fin.length c3] 30) = v21 at *
      have hb : Below w21.heap.size w21 v21 := by rw [← hW]; exact (Below.refl _ _).alloc (Nat.le_refl _) _
      have Hk := hid hA
      have Ha := hid (Ha.out.below (hb.mono Ha.out.le))
      have HB := hid (HB.out.trans (hb.mono HB.out.size))
      clear hW HD hA hb
      obtain ⟨p00, p01, p02⟩ := Hk.out.cells
      have hc := takes_any Hk.out.dfa Hk.out.fits t h1000
      rw [HTK.out] at hc
      go_wp2_with fail
      refine hc.mono ?_
      clear hc p00 p01 p02
      rintro e w22 ⟨rfl, hb⟩
      have Ha := hid (Ha.out.below (hb.mono Ha.out.le))
      have Hk := hid (Hk.out.below (hb.mono Hk.out.le))
      have HB := hid (HB.out.trans (hb.mono HB.out.size))
      clear hb
      have haw := awake12_any _ (HT.out _ HB.out)
      go_wp2_with fail
      refine haw.mono ?_
      clear haw
      rintro e w23 ⟨rfl, hb⟩
      have HB := hid (HB.out.trans (hb.mono HB.out.size))
      clear hb
      go_wp2_with fail
      go_ret
      exact ⟨rfl, HB.out⟩
set_option maxRecDepth 100000 in
set_option maxHeartbeats 16000000 in
theorem take_tf {F G : Nat → Prop} {w : World} {a1 a2 a3 b1 b2 b3 : Value} {a b : Dfa} (ha : DfaIn F w a1 a2 a3 a) (hb : DfaIn G w b1 b2 b3 b) (hF : ∀ g, F g → g < w.heap.size) (hG : ∀ g, G g → g < w.heap.size) (t : ByteArray) (ht : t.size ≤ 140737488351232) (hT : Tab w) (hoka : dfaOk a = true) (hokb : dfaOk b = true) (hta : takesM a t.data.toList = (true, 0)) (htb : takesM b t.data.toList = (false, 0)) :
    Calls Tryd.prog 9 #[.agg #[a1, a2, a3], .agg #[b1, b2, b3], .string t] w (AwPost w) := by
  have HTA := hid hta
  have HTB := hid htb
  have HOA := hid hoka
  have HOB := hid hokb
  clear hta htb hoka hokb
  obtain ⟨W0, hW0⟩ : ∃ W0, W0 = (w.alloc (.cells #[a1, a2, a3] 30)).alloc (.cells #[b1, b2, b3] 30) := ⟨_, rfl⟩
  have hA0 : W0.heap[w.heap.size]? = some (.cells #[a1, a2, a3] 30 (0, 0)) := by rw [hW0]; exact (alloc_old (by simp)).trans (heap_alloc_new _ _)
  have hC0 : W0.heap[w.heap.size + 1]? = some (.cells #[b1, b2, b3] 30 (0, 0)) := by rw [hW0]; exact newB _ _ _
  have hB0 : Below w.heap.size w W0 := by rw [hW0]; exact ((Below.refl _ _).alloc (Nat.le_refl _) _).alloc (by simp) _
  have hz0 : W0.heap.size = w.heap.size + 2 := by rw [hW0]; simp
  obtain ⟨ada, cpa, rfl, hma, _⟩ := ha.cls
  obtain ⟨adb, cpb, rfl, hmb, _⟩ := ha.next
  obtain ⟨adc, cpc, rfl, hmc, _⟩ := ha.fin
  obtain ⟨ada', cpa', rfl, hma', _⟩ := hb.cls
  obtain ⟨adb', cpb', rfl, hmb', _⟩ := hb.next
  obtain ⟨adc', cpc', rfl, hmc', _⟩ := hb.fin
  unfold maxLen at hma hmb hmc hma' hmb' hmc'
  have Ha := hid (ABox.arg (L := w.heap.size + 2) ha hF hB0 hA0 (by omega) (by omega) (by omega))
  have Hb := hid (ABox.arg (L := w.heap.size + 2) hb hG hB0 hC0 (by omega) (by omega) (by omega))
  have HB := hid hB0
  have HT := hid (fun (W : World) (h : Below w.heap.size w W) => (show Tab W from hT.below h))
  have HW0 := hid hW0
  clear ha hb hF hG hT hA0 hC0 hB0 hW0 hz0
  obtain ⟨p00, p01, p02⟩ := Ha.out.cells
  obtain ⟨p10, p11, p12⟩ := Hb.out.cells
  have hc := few_shows Ha.out.dfa Ha.out.fits
  go_enter Tryd.func9, Tryd.ntmps9
  go_upto_region 1 with fail
  rw [← HW0.out]
  clear HW0
  go_wp2_with fail
  refine hc.mono ?_
  clear hc p00 p01 p02 p10 p11 p12
  rintro e w0 ⟨⟨xa, rfl, hfa⟩, hb⟩
  have Ha := hid (Ha.out.below (hb.mono Ha.out.le))
  have Hb := hid (Hb.out.below (hb.mono Hb.out.le))
  have HB := hid (HB.out.trans (hb.mono HB.out.size))
  have HFA := hid hfa
  clear hb hfa
  cases xa with
  | false =>
    go_wp2_with fail
    go_ret
    exact ⟨rfl, HB.out⟩
  | true =>
  obtain ⟨p10, p11, p12⟩ := Hb.out.cells
  have hc := few_shows Hb.out.dfa Hb.out.fits
  go_wp2_with fail
  refine hc.mono ?_
  clear hc p10 p11 p12
  rintro e w1 ⟨⟨xb, rfl, hfb⟩, hb⟩
  have Ha := hid (Ha.out.below (hb.mono Ha.out.le))
  have Hb := hid (Hb.out.below (hb.mono Hb.out.le))
  have HB := hid (HB.out.trans (hb.mono HB.out.size))
  have HFB := hid hfb
  clear hb hfb HFA
  cases xb with
  | false =>
    go_wp2_with fail
    go_ret
    exact ⟨rfl, HB.out⟩
  | true =>
  clear HFB
  by_cases h100 : 100 < t.size
  · have h100' : (100 : Int) < (t.size : Int) := by omega
    go_wp2_with fail
    go_ret
    exact ⟨rfl, HB.out⟩
  have h100' : ¬ ((100 : Int) < (t.size : Int)) := by omega
  go_upto_region 3 with fail
  have h1000 : t.size ≤ 1000 := by omega
  clear h100 h100'
  obtain ⟨p00, p01, p02⟩ := Ha.out.cells
  have hc := takes_any Ha.out.dfa Ha.out.fits t h1000
  rw [HTA.out] at hc
  go_wp2_with fail
  refine hc.mono ?_
  clear hc p00 p01 p02
  rintro e w2 ⟨rfl, hb⟩
  have Ha := hid (Ha.out.below (hb.mono Ha.out.le))
  have Hb := hid (Hb.out.below (hb.mono Hb.out.le))
  have HB := hid (HB.out.trans (hb.mono HB.out.size))
  clear hb
  obtain ⟨p00, p01, p02⟩ := Hb.out.cells
  have hc := takes_any Hb.out.dfa Hb.out.fits t h1000
  rw [HTB.out] at hc
  go_wp2_with fail
  refine hc.mono ?_
  clear hc p00 p01 p02
  rintro e w3 ⟨rfl, hb⟩
  have Ha := hid (Ha.out.below (hb.mono Ha.out.le))
  have Hb := hid (Hb.out.below (hb.mono Hb.out.le))
  have HB := hid (HB.out.trans (hb.mono HB.out.size))
  clear hb
  go_upto_region 8 with fail
  have hzs := HB.out.size
  obtain ⟨WS, hWS⟩ : ∃ WS, WS = w3.alloc (.cells #[.func (.func 29) #[] #[], .func (.func 30) #[] #[], .func (.func 31) #[] #[], .func (.func 32) #[] #[]] 51) := ⟨_, rfl⟩
  have hb : Below w3.heap.size w3 WS := by rw [hWS]; exact (Below.refl _ _).alloc (Nat.le_refl _) _
  have HS1 := hid (show WS.heap[w3.heap.size]? = some (.cells #[.func (.func 29) #[] #[], .func (.func 30) #[] #[], .func (.func 31) #[] #[], .func (.func 32) #[] #[]] 51 (0, 0)) by rw [hWS]; exact heap_alloc_new _ _)
  rw [← hWS]
  have Ha := hid (Ha.out.below (hb.mono Ha.out.le))
  have Hb := hid (Hb.out.below (hb.mono Hb.out.le))
  have HB := hid (HB.out.trans (hb.mono HB.out.size))
  clear hb hWS hzs
  generalize w3.heap.size = S1 at *
  go_upto_region 9 with fail
  obtain ⟨Wl, hWl⟩ : ∃ Wl, Wl = WS.alloc (.cells #[.bool false, .bool true, .bool true, .bool true] 4) := ⟨_, rfl⟩
  have hb : Below WS.heap.size WS Wl := by rw [hWl]; exact (Below.refl _ _).alloc (Nat.le_refl _) _
  have HS2 := hid (show Wl.heap[WS.heap.size]? = some (.cells #[.bool false, .bool true, .bool true, .bool true] 4 (0, 0)) by rw [hWl]; exact heap_alloc_new _ _)
  have HS1 := hid ((hb.block _ (lt_of_heap HS1.out)).trans HS1.out)
  rw [← hWl]
  have Ha := hid (Ha.out.below (hb.mono Ha.out.le))
  have Hb := hid (Hb.out.below (hb.mono Hb.out.le))
  have HB := hid (HB.out.trans (hb.mono HB.out.size))
  clear hb hWl
  generalize WS.heap.size = S2 at *
  have hs1 := lt_of_heap HS1.out
  have hs2 := lt_of_heap HS2.out
  have HAl := hid Ha.out
  have HCl := hid Hb.out
  have HBw := hid HB.out
  have HBl := hid (Below.refl Wl.heap.size Wl)
  clear Ha Hb HB
  go_wp2_with fail
  go_loopw [13] (fun i wr => ∃ k : Nat, k ≤ 4 ∧ i = .int .i64 k ∧ Below Wl.heap.size Wl wr) (fun i _ => 4 - (intOf i).toNat)
  case atStart => exact ⟨0, by decide, rfl, HBl.out⟩
  case round =>
    obtain ⟨k, hk, rfl, hbl⟩ := hrel
    have HBl := hid hbl
    have Ha := hid (HAl.out.below (hbl.mono HAl.out.le))
    have Hb := hid (HCl.out.below (hbl.mono HCl.out.le))
    have HB := hid (HBw.out.trans (hbl.mono HBw.out.size))
    have hs1w : S1 < wr.heap.size := Nat.lt_of_lt_of_le hs1 hbl.size
    clear hbl
    by_cases hlt : k < 4
    · obtain ⟨fv, f, fb, hs1k, hs2k, hj, hfb⟩ : ∃ (fv : FuncId) (f : Bool → Bool → Bool) (fb : Bool), Wl.cell? ⟨S1, k, none⟩ = some (.func (.func fv) #[] #[]) ∧ Wl.cell? ⟨S2, k, none⟩ = some (.bool fb) ∧ JoinOk fv f ∧ f true false = fb := by
        match k, hlt with
        | 0, _ => exact ⟨_, _, _, cell_blk HS1.out rfl, cell_blk HS2.out rfl, jok_and, rfl⟩
        | 1, _ => exact ⟨_, _, _, cell_blk HS1.out rfl, cell_blk HS2.out rfl, jok_or, rfl⟩
        | 2, _ => exact ⟨_, _, _, cell_blk HS1.out rfl, cell_blk HS2.out rfl, jok_less, rfl⟩
        | 3, _ => exact ⟨_, _, _, cell_blk HS1.out rfl, cell_blk HS2.out rfl, jok_apart, rfl⟩
      have HJ := hid hj
      have s1 := (HBl.out.cell (p := ⟨S1, k, none⟩) hs1).trans hs1k
      have S2K := hid (fun (W : World) (h : Below Wl.heap.size Wl W) => (h.cell (p := ⟨S2, k, none⟩) hs2).trans hs2k)
      have HFB := hid hfb
      have HAD := hid Ha.out.dfa
      have HBD := hid Hb.out.dfa
      obtain ⟨p00, p01, p02⟩ := Ha.out.cells
      obtain ⟨p10, p11, p12⟩ := Hb.out.cells
      have hkI : (k : Int) < 4 := by omega
      clear hs1k hs2k hj hfb hs1
      have hs1 := hs1w
      cases hx : joinM f a b with
      | error er =>
        obtain rfl := join_err HOA.out HOB.out hx
        have HX := hid hx
        clear hx
        go_upto_region 12 with fail
        have HKP := hid (fun (W : World) (h : Below wr.heap.size wr W) => (show (fun W : World => W.cell? ⟨w.heap.size, 0, none⟩ = some (.slice ada a.cls.length cpa) ∧ W.cell? ⟨w.heap.size, 1, none⟩ = some (.slice adb a.next.length cpb) ∧ W.cell? ⟨w.heap.size, 2, none⟩ = some (.slice adc a.fin.length cpc) ∧ W.cell? ⟨w.heap.size + 1, 0, none⟩ = some (.slice ada' b.cls.length cpa') ∧ W.cell? ⟨w.heap.size + 1, 1, none⟩ = some (.slice adb' b.next.length cpb') ∧ W.cell? ⟨w.heap.size + 1, 2, none⟩ = some (.slice adc' b.fin.length cpc') ∧ W.cell? ⟨S1, k, none⟩ = some (.func (.func fv) #[] #[])) W from ⟨(h.cell (Nat.lt_of_lt_of_le Ha.out.lt Ha.out.le)).trans p00, (h.cell (Nat.lt_of_lt_of_le Ha.out.lt Ha.out.le)).trans p01, (h.cell (Nat.lt_of_lt_of_le Ha.out.lt Ha.out.le)).trans p02, (h.cell (Nat.lt_of_lt_of_le Hb.out.lt Hb.out.le)).trans p10, (h.cell (Nat.lt_of_lt_of_le Hb.out.lt Hb.out.le)).trans p11, (h.cell (Nat.lt_of_lt_of_le Hb.out.lt Hb.out.le)).trans p12, (h.cell hs1).trans s1⟩))
        have HCUR := hid ((Below.refl wr.heap.size wr).drew)
        have HS := hid (HKP.out _ HCUR.out)
        clear p00 p01 p02 p10 p11 p12 s1
        refine wp_region_held_drew (S := (fun W : World => W.cell? ⟨w.heap.size, 0, none⟩ = some (.slice ada a.cls.length cpa) ∧ W.cell? ⟨w.heap.size, 1, none⟩ = some (.slice adb a.next.length cpb) ∧ W.cell? ⟨w.heap.size, 2, none⟩ = some (.slice adc a.fin.length cpc) ∧ W.cell? ⟨w.heap.size + 1, 0, none⟩ = some (.slice ada' b.cls.length cpa') ∧ W.cell? ⟨w.heap.size + 1, 1, none⟩ = some (.slice adb' b.next.length cpb') ∧ W.cell? ⟨w.heap.size + 1, 2, none⟩ = some (.slice adc' b.fin.length cpc') ∧ W.cell? ⟨S1, k, none⟩ = some (.func (.func fv) #[] #[]))) (by kernel_rfl) HS.out (fun _ => ?_)
        refine wpAnyH_take (i := 0) (v := .slice (some ⟨S1, 0, none⟩) 4 4) rfl (by kernel_rfl) (by kernel_rfl) (by kernel_rfl) (fun _ _ _ h => h) (Or.inl ⟨by rfl, fun w hS => by go_simp⟩) HS.out ?_
        simp only [Act.put, List.getElem_toArray, List.getElem_cons_zero, List.getElem_cons_succ, List.setIfInBounds_toArray, List.set_cons_zero, List.set_cons_succ]
        refine wpAnyH_take (i := 1) (v := .int .i64 k) rfl (by kernel_rfl) (by kernel_rfl) (by kernel_rfl) (fun _ _ _ h => h) (Or.inl ⟨by rfl, fun w hS => by go_simp⟩) HS.out ?_
        simp only [Act.put, List.getElem_toArray, List.getElem_cons_zero, List.getElem_cons_succ, List.setIfInBounds_toArray, List.set_cons_zero, List.set_cons_succ]
        refine wpAnyH_take (i := 2) (v := .pointer (some ⟨S1, k, none⟩)) rfl (by kernel_rfl) (by kernel_rfl) (by kernel_rfl) (fun _ _ _ h => h) (Or.inl ⟨by rfl, fun w hS => by go_simp⟩) HS.out ?_
        simp only [Act.put, List.getElem_toArray, List.getElem_cons_zero, List.getElem_cons_succ, List.setIfInBounds_toArray, List.set_cons_zero, List.set_cons_succ]
        refine wpAnyH_take (i := 3) (v := .func (.func fv) #[] #[]) rfl (by kernel_rfl) (by kernel_rfl) (by kernel_rfl) (fun _ _ _ h => h) (Or.inl ⟨by rfl, fun w hS => by have k6 := hS.2.2.2.2.2.2; go_simp⟩) HS.out ?_
        simp only [Act.put, List.getElem_toArray, List.getElem_cons_zero, List.getElem_cons_succ, List.setIfInBounds_toArray, List.set_cons_zero, List.set_cons_succ]
        refine wpAnyH_take (i := 4) (v := .agg #[.slice ada a.cls.length cpa, .slice adb a.next.length cpb, .slice adc a.fin.length cpc]) rfl (by kernel_rfl) (by kernel_rfl) (by kernel_rfl) (fun _ _ _ h => h) (Or.inl ⟨by rfl, fun w hS => by have k0 := hS.1; have k1 := hS.2.1; have k2 := hS.2.2.1; go_simp⟩) HS.out ?_
        simp only [Act.put, List.getElem_toArray, List.getElem_cons_zero, List.getElem_cons_succ, List.setIfInBounds_toArray, List.set_cons_zero, List.set_cons_succ]
        refine wpAnyH_take (i := 5) (v := .agg #[.slice ada' b.cls.length cpa', .slice adb' b.next.length cpb', .slice adc' b.fin.length cpc']) rfl (by kernel_rfl) (by kernel_rfl) (by kernel_rfl) (fun _ _ _ h => h) (Or.inl ⟨by rfl, fun w hS => by have k3 := hS.2.2.2.1; have k4 := hS.2.2.2.2.1; have k5 := hS.2.2.2.2.2.1; go_simp⟩) HS.out ?_
        simp only [Act.put, List.getElem_toArray, List.getElem_cons_zero, List.getElem_cons_succ, List.setIfInBounds_toArray, List.set_cons_zero, List.set_cons_succ]
        refine wpAnyH_ready (rs := [6, 10]) (by kernel_rfl) (by simp) (AllReadyH.cons rfl (fun K hK => ?_) (AllReadyH.cons rfl (fun K hK => ?_) AllReadyH.nil))
        · go_simp
          refine HJ.out _ _ _ _ _ _ _ _ _ _ _ (DfaIn.frame HAD.out (F' := fun q => q < w.heap.size + 2) (fun _ h => h) (fun q hq _ => HCUR.out.block q (Nat.lt_of_lt_of_le hq Ha.out.le))) (DfaIn.frame HBD.out (F' := fun q => q < w.heap.size + 2) (fun _ h => h) (fun q hq _ => HCUR.out.block q (Nat.lt_of_lt_of_le hq Hb.out.le))) (fun q hq => Nat.lt_of_lt_of_le (Nat.lt_of_lt_of_le hq Ha.out.le) HCUR.out.size) (fun q hq => Nat.lt_of_lt_of_le (Nat.lt_of_lt_of_le hq Hb.out.le) HCUR.out.size) (HT.out _ (HB.out.trans (HCUR.out.mono HB.out.size))) _ _ _ _ ?_
          intro v w3 hp
          rw [HX.out] at hp
          obtain ⟨x1, c1, x2, c2, x3, c3, he, hd, hb⟩ := hp.open'
          cases he
          dsimp only [outX] at hd ⊢
          have HD := hid hd
          have HPB' := hid hb
          have HCUR := hid (HCUR.out.trans (hb.mono HCUR.out.size))
          have HS := hid (HKP.out _ HCUR.out)
          refine hK.out _ _ HS.out (fun _ => ?_)
          clear hK K hb hd hp
          simp only [Act.put, List.getElem_toArray, List.getElem_cons_zero, List.getElem_cons_succ, List.setIfInBounds_toArray, List.set_cons_zero, List.set_cons_succ]
          refine wpAnyH_take (i := 7) (v := .tuple #[.agg #[.slice x1 Dfa.zero.cls.length c1, .slice x2 Dfa.zero.next.length c2, .slice x3 Dfa.zero.fin.length c3], .int .i64 2]) rfl (by kernel_rfl) (by kernel_rfl) (by kernel_rfl) (fun _ _ _ h => h) (Or.inl ⟨by rfl, fun w hS => by go_simp⟩) HS.out ?_
          simp only [Act.put, List.getElem_toArray, List.getElem_cons_zero, List.getElem_cons_succ, List.setIfInBounds_toArray, List.set_cons_zero, List.set_cons_succ]
          refine wpAnyH_take (i := 8) (v := .agg #[.slice x1 Dfa.zero.cls.length c1, .slice x2 Dfa.zero.next.length c2, .slice x3 Dfa.zero.fin.length c3]) rfl (by kernel_rfl) (by kernel_rfl) (by kernel_rfl) (fun _ _ _ h => h) (Or.inl ⟨by rfl, fun w hS => by go_simp⟩) HS.out ?_
          simp only [Act.put, List.getElem_toArray, List.getElem_cons_zero, List.getElem_cons_succ, List.setIfInBounds_toArray, List.set_cons_zero, List.set_cons_succ]
          refine wpAnyH_take (i := 9) (v := .int .i64 2) rfl (by kernel_rfl) (by kernel_rfl) (by kernel_rfl) (fun _ _ _ h => h) (Or.inl ⟨by rfl, fun w hS => by go_simp⟩) HS.out ?_
          simp only [Act.put, List.getElem_toArray, List.getElem_cons_zero, List.getElem_cons_succ, List.setIfInBounds_toArray, List.set_cons_zero, List.set_cons_succ]
          refine wpAnyH_ready (rs := [10]) (by kernel_rfl) (by simp) (AllReadyH.cons rfl (fun K hK => ?_) AllReadyH.nil)
          go_simp
          have hzr : wr.heap.size ≤ w3.heap.size := HCUR.out.size
          have HPB := hid (show (w3.alloc (.cells #[.slice none 0 0, .slice none 0 0, .slice none 0 0] 30)).heap[w3.heap.size]? = some (.cells #[.slice none 0 0, .slice none 0 0, .slice none 0 0] 30 (0, 0)) from heap_alloc_new _ _)
          have HPK := hid (fun (g : Nat) (_ : wr.heap.size ≤ g) (h2 : g < w3.heap.size) => (show (w3.alloc (.cells #[.slice none 0 0, .slice none 0 0, .slice none 0 0] 30)).heap[g]? = w3.heap[g]? from alloc_old h2))
          have HPZ := hid (show w3.heap.size ≤ (w3.alloc (.cells #[.slice none 0 0, .slice none 0 0, .slice none 0 0] 30)).heap.size by simp)
          have HCUR := hid (show Below wr.heap.size wr (w3.alloc (.cells #[.slice none 0 0, .slice none 0 0, .slice none 0 0] 30)) from HCUR.out.alloc hzr _)
          have HS := hid (HKP.out _ HCUR.out)
          refine hK.out _ _ HS.out (fun _ => ?_)
          clear hK K
          obtain ⟨P, hP⟩ : ∃ P, P = w3.heap.size := ⟨_, rfl⟩
          have HPN := hid (fun (g : Nat) (_ : wr.heap.size ≤ g) (h2 : g < w3.heap.size) => (show g ≠ P by rw [hP]; exact Nat.ne_of_lt h2))
          have HPL := hid (show wr.heap.size ≤ P by rw [hP]; exact hzr)
          generalize w3.alloc (.cells #[.slice none 0 0, .slice none 0 0, .slice none 0 0] 30) = w4 at *
          have HPB : Hid (w4.heap[P]? = some (.cells #[.slice none 0 0, .slice none 0 0, .slice none 0 0] 30 (0, 0))) := hid (by rw [hP]; exact HPB.out)
          rw [← hP]
          clear hP hzr
          have d0 := cell_blk (i := 0) HPB.out rfl
          have d1 := cell_blk (i := 1) HPB.out rfl
          have d2 := cell_blk (i := 2) HPB.out rfl
          have d3 := free_box (i := 0) HPB.out
          have d4 := free_box (i := 1) HPB.out
          have d5 := free_box (i := 2) HPB.out
          refine wpAnyH_ready (rs := [11]) (by kernel_rfl) (by simp) (AllReadyH.cons rfl (fun K hK => ?_) AllReadyH.nil)
          go_simp
          have hpb := three_all (.slice x1 Dfa.zero.cls.length c1) (.slice x2 Dfa.zero.next.length c2) (.slice x3 Dfa.zero.fin.length c3) HPB.out
          have HCUR := hid (show Below wr.heap.size wr (((w4.setCell ⟨P, 0, none⟩ (.slice x1 Dfa.zero.cls.length c1)).setCell ⟨P, 1, none⟩ (.slice x2 Dfa.zero.next.length c2)).setCell ⟨P, 2, none⟩ (.slice x3 Dfa.zero.fin.length c3)) from ((HCUR.out.setCell HPL.out _).setCell HPL.out _).setCell HPL.out _)
          have HS := hid (HKP.out _ HCUR.out)
          refine hK.out _ _ HS.out (fun _ => ?_)
          clear hK K d0 d1 d2 d3 d4 d5
          have HBO := hid (ABox.born HD.out (W := (((w4.setCell ⟨P, 0, none⟩ (.slice x1 Dfa.zero.cls.length c1)).setCell ⟨P, 1, none⟩ (.slice x2 Dfa.zero.next.length c2)).setCell ⟨P, 2, none⟩ (.slice x3 Dfa.zero.fin.length c3))) (fun g h1 h2 => (heap_setCell_other _ _ _ _ (HPN.out g h1 h2)).trans ((heap_setCell_other _ _ _ _ (HPN.out g h1 h2)).trans ((heap_setCell_other _ _ _ _ (HPN.out g h1 h2)).trans (HPK.out g h1 h2)))) (by simpa using HPZ.out) hpb)
          clear hpb
          generalize (((w4.setCell ⟨P, 0, none⟩ (.slice x1 Dfa.zero.cls.length c1)).setCell ⟨P, 1, none⟩ (.slice x2 Dfa.zero.next.length c2)).setCell ⟨P, 2, none⟩ (.slice x3 Dfa.zero.fin.length c3)) = w5 at *
          refine wpAnyH_take (i := 12) (v := .int .i64 2) rfl (by kernel_rfl) (by kernel_rfl) (by kernel_rfl) (fun _ _ _ h => h) (Or.inl ⟨by rfl, fun w hS => by go_simp⟩) HS.out ?_
          simp only [Act.put, List.getElem_toArray, List.getElem_cons_zero, List.getElem_cons_succ, List.setIfInBounds_toArray, List.set_cons_zero, List.set_cons_succ]
          refine wpAnyH_done (by kernel_rfl) ?_ _
          have Ha := hid (Ha.out.below (HCUR.out.mono Ha.out.le))
          have Hb := hid (Hb.out.below (HCUR.out.mono Hb.out.le))
          have HBl := hid (HBl.out.trans (HCUR.out.mono HBl.out.size))
          have HB := hid (HB.out.trans (HCUR.out.mono HB.out.size))
          go_wp2_with fail
          refine And.intro ?_ ?_
          · exact ⟨k + 1, by omega, by go_num, HBl.out⟩
          · simp [intOf]; omega
        · go_simp
          have HPB := hid (show ((wr.alloc (.cells #[.slice none 0 0, .slice none 0 0, .slice none 0 0] 30)).drew).heap[wr.heap.size]? = some (.cells #[.slice none 0 0, .slice none 0 0, .slice none 0 0] 30 (0, 0)) from heap_alloc_new _ _)
          have HZB := hid (show ((wr.alloc (.cells #[.slice none 0 0, .slice none 0 0, .slice none 0 0] 30)).drew).heap.size = wr.heap.size + 1 by simp)
          have HCUR := hid (show Below wr.heap.size wr ((wr.alloc (.cells #[.slice none 0 0, .slice none 0 0, .slice none 0 0] 30)).drew) from ((Below.refl _ _).alloc (Nat.le_refl _) _).drew)
          have HS := hid (HKP.out _ HCUR.out)
          refine hK.out _ _ HS.out (fun _ => ?_)
          clear hK K
          generalize (wr.alloc (.cells #[.slice none 0 0, .slice none 0 0, .slice none 0 0] 30)).drew = wb at *
          refine wpAnyH_ready (rs := [6]) (by kernel_rfl) (by simp) (AllReadyH.cons rfl (fun K hK => ?_) AllReadyH.nil)
          go_simp
          refine HJ.out _ _ _ _ _ _ _ _ _ _ _ (DfaIn.frame HAD.out (F' := fun q => q < w.heap.size + 2) (fun _ h => h) (fun q hq _ => HCUR.out.block q (Nat.lt_of_lt_of_le hq Ha.out.le))) (DfaIn.frame HBD.out (F' := fun q => q < w.heap.size + 2) (fun _ h => h) (fun q hq _ => HCUR.out.block q (Nat.lt_of_lt_of_le hq Hb.out.le))) (fun q hq => Nat.lt_of_lt_of_le (Nat.lt_of_lt_of_le hq Ha.out.le) HCUR.out.size) (fun q hq => Nat.lt_of_lt_of_le (Nat.lt_of_lt_of_le hq Hb.out.le) HCUR.out.size) (HT.out _ (HB.out.trans (HCUR.out.mono HB.out.size))) _ _ _ _ ?_
          intro v w3 hp
          rw [HX.out] at hp
          obtain ⟨x1, c1, x2, c2, x3, c3, he, hd, hb⟩ := hp.open'
          cases he
          dsimp only [outX] at hd ⊢
          have HD := hid hd
          have HPB' := hid hb
          have HCUR := hid (HCUR.out.trans (hb.mono HCUR.out.size))
          have HS := hid (HKP.out _ HCUR.out)
          refine hK.out _ _ HS.out (fun _ => ?_)
          clear hK K hb hd hp
          simp only [Act.put, List.getElem_toArray, List.getElem_cons_zero, List.getElem_cons_succ, List.setIfInBounds_toArray, List.set_cons_zero, List.set_cons_succ]
          refine wpAnyH_take (i := 7) (v := .tuple #[.agg #[.slice x1 Dfa.zero.cls.length c1, .slice x2 Dfa.zero.next.length c2, .slice x3 Dfa.zero.fin.length c3], .int .i64 2]) rfl (by kernel_rfl) (by kernel_rfl) (by kernel_rfl) (fun _ _ _ h => h) (Or.inl ⟨by rfl, fun w hS => by go_simp⟩) HS.out ?_
          simp only [Act.put, List.getElem_toArray, List.getElem_cons_zero, List.getElem_cons_succ, List.setIfInBounds_toArray, List.set_cons_zero, List.set_cons_succ]
          refine wpAnyH_take (i := 8) (v := .agg #[.slice x1 Dfa.zero.cls.length c1, .slice x2 Dfa.zero.next.length c2, .slice x3 Dfa.zero.fin.length c3]) rfl (by kernel_rfl) (by kernel_rfl) (by kernel_rfl) (fun _ _ _ h => h) (Or.inl ⟨by rfl, fun w hS => by go_simp⟩) HS.out ?_
          simp only [Act.put, List.getElem_toArray, List.getElem_cons_zero, List.getElem_cons_succ, List.setIfInBounds_toArray, List.set_cons_zero, List.set_cons_succ]
          refine wpAnyH_take (i := 9) (v := .int .i64 2) rfl (by kernel_rfl) (by kernel_rfl) (by kernel_rfl) (fun _ _ _ h => h) (Or.inl ⟨by rfl, fun w hS => by go_simp⟩) HS.out ?_
          simp only [Act.put, List.getElem_toArray, List.getElem_cons_zero, List.getElem_cons_succ, List.setIfInBounds_toArray, List.set_cons_zero, List.set_cons_succ]
          obtain ⟨P, hP⟩ : ∃ P, P = wr.heap.size := ⟨_, rfl⟩
          have HPB : Hid (w3.heap[P]? = some (.cells #[.slice none 0 0, .slice none 0 0, .slice none 0 0] 30 (0, 0))) := hid (by rw [hP]; exact (HPB'.out.block wr.heap.size (by rw [HZB.out]; omega)).trans HPB.out)
          have HPN := hid (fun (g : Nat) (h1 : wb.heap.size ≤ g) (_ : g < w3.heap.size) => (show g ≠ P by have := HZB.out; omega))
          have HPL := hid (show wr.heap.size ≤ P by rw [hP]; exact Nat.le_refl _)
          obtain ⟨w4, hw4⟩ : ∃ w4, w4 = w3 := ⟨_, rfl⟩
          have HPB : Hid (w4.heap[P]? = some (.cells #[.slice none 0 0, .slice none 0 0, .slice none 0 0] 30 (0, 0))) := hid (by rw [hw4]; exact HPB.out)
          have HPK := hid (fun (g : Nat) (_ : wb.heap.size ≤ g) (_ : g < w3.heap.size) => (show w4.heap[g]? = w3.heap[g]? by rw [hw4]))
          have HPZ := hid (show w3.heap.size ≤ w4.heap.size by rw [hw4]; exact Nat.le_refl _)
          have HCUR : Hid (Below wr.heap.size wr w4) := hid (by rw [hw4]; exact HCUR.out)
          have HS := hid (HKP.out _ HCUR.out)
          rw [← hP, ← hw4]
          clear hP hw4
          have d0 := cell_blk (i := 0) HPB.out rfl
          have d1 := cell_blk (i := 1) HPB.out rfl
          have d2 := cell_blk (i := 2) HPB.out rfl
          have d3 := free_box (i := 0) HPB.out
          have d4 := free_box (i := 1) HPB.out
          have d5 := free_box (i := 2) HPB.out
          refine wpAnyH_ready (rs := [11]) (by kernel_rfl) (by simp) (AllReadyH.cons rfl (fun K hK => ?_) AllReadyH.nil)
          go_simp
          have hpb := three_all (.slice x1 Dfa.zero.cls.length c1) (.slice x2 Dfa.zero.next.length c2) (.slice x3 Dfa.zero.fin.length c3) HPB.out
          have HCUR := hid (show Below wr.heap.size wr (((w4.setCell ⟨P, 0, none⟩ (.slice x1 Dfa.zero.cls.length c1)).setCell ⟨P, 1, none⟩ (.slice x2 Dfa.zero.next.length c2)).setCell ⟨P, 2, none⟩ (.slice x3 Dfa.zero.fin.length c3)) from ((HCUR.out.setCell HPL.out _).setCell HPL.out _).setCell HPL.out _)
          have HS := hid (HKP.out _ HCUR.out)
          refine hK.out _ _ HS.out (fun _ => ?_)
          clear hK K d0 d1 d2 d3 d4 d5
          have HBO := hid (ABox.born HD.out (W := (((w4.setCell ⟨P, 0, none⟩ (.slice x1 Dfa.zero.cls.length c1)).setCell ⟨P, 1, none⟩ (.slice x2 Dfa.zero.next.length c2)).setCell ⟨P, 2, none⟩ (.slice x3 Dfa.zero.fin.length c3))) (fun g h1 h2 => (heap_setCell_other _ _ _ _ (HPN.out g h1 h2)).trans ((heap_setCell_other _ _ _ _ (HPN.out g h1 h2)).trans ((heap_setCell_other _ _ _ _ (HPN.out g h1 h2)).trans (HPK.out g h1 h2)))) (by simpa using HPZ.out) hpb)
          clear hpb
          generalize (((w4.setCell ⟨P, 0, none⟩ (.slice x1 Dfa.zero.cls.length c1)).setCell ⟨P, 1, none⟩ (.slice x2 Dfa.zero.next.length c2)).setCell ⟨P, 2, none⟩ (.slice x3 Dfa.zero.fin.length c3)) = w5 at *
          refine wpAnyH_take (i := 12) (v := .int .i64 2) rfl (by kernel_rfl) (by kernel_rfl) (by kernel_rfl) (fun _ _ _ h => h) (Or.inl ⟨by rfl, fun w hS => by go_simp⟩) HS.out ?_
          simp only [Act.put, List.getElem_toArray, List.getElem_cons_zero, List.getElem_cons_succ, List.setIfInBounds_toArray, List.set_cons_zero, List.set_cons_succ]
          refine wpAnyH_done (by kernel_rfl) ?_ _
          have Ha := hid (Ha.out.below (HCUR.out.mono Ha.out.le))
          have Hb := hid (Hb.out.below (HCUR.out.mono Hb.out.le))
          have HBl := hid (HBl.out.trans (HCUR.out.mono HBl.out.size))
          have HB := hid (HB.out.trans (HCUR.out.mono HB.out.size))
          go_wp2_with fail
          refine And.intro ?_ ?_
          · exact ⟨k + 1, by omega, by go_num, HBl.out⟩
          · simp [intOf]; omega
      | ok d =>
        have HTK := hid (show takesM d t.data.toList = (fb, 0) by rw [(join_law hx).2, HTA.out, HTB.out, ← HFB.out])
        have HX := hid hx
        clear hx
        go_upto_region 12 with fail
        have HKP := hid (fun (W : World) (h : Below wr.heap.size wr W) => (show (fun W : World => W.cell? ⟨w.heap.size, 0, none⟩ = some (.slice ada a.cls.length cpa) ∧ W.cell? ⟨w.heap.size, 1, none⟩ = some (.slice adb a.next.length cpb) ∧ W.cell? ⟨w.heap.size, 2, none⟩ = some (.slice adc a.fin.length cpc) ∧ W.cell? ⟨w.heap.size + 1, 0, none⟩ = some (.slice ada' b.cls.length cpa') ∧ W.cell? ⟨w.heap.size + 1, 1, none⟩ = some (.slice adb' b.next.length cpb') ∧ W.cell? ⟨w.heap.size + 1, 2, none⟩ = some (.slice adc' b.fin.length cpc') ∧ W.cell? ⟨S1, k, none⟩ = some (.func (.func fv) #[] #[])) W from ⟨(h.cell (Nat.lt_of_lt_of_le Ha.out.lt Ha.out.le)).trans p00, (h.cell (Nat.lt_of_lt_of_le Ha.out.lt Ha.out.le)).trans p01, (h.cell (Nat.lt_of_lt_of_le Ha.out.lt Ha.out.le)).trans p02, (h.cell (Nat.lt_of_lt_of_le Hb.out.lt Hb.out.le)).trans p10, (h.cell (Nat.lt_of_lt_of_le Hb.out.lt Hb.out.le)).trans p11, (h.cell (Nat.lt_of_lt_of_le Hb.out.lt Hb.out.le)).trans p12, (h.cell hs1).trans s1⟩))
        have HCUR := hid ((Below.refl wr.heap.size wr).drew)
        have HS := hid (HKP.out _ HCUR.out)
        clear p00 p01 p02 p10 p11 p12 s1
        refine wp_region_held_drew (S := (fun W : World => W.cell? ⟨w.heap.size, 0, none⟩ = some (.slice ada a.cls.length cpa) ∧ W.cell? ⟨w.heap.size, 1, none⟩ = some (.slice adb a.next.length cpb) ∧ W.cell? ⟨w.heap.size, 2, none⟩ = some (.slice adc a.fin.length cpc) ∧ W.cell? ⟨w.heap.size + 1, 0, none⟩ = some (.slice ada' b.cls.length cpa') ∧ W.cell? ⟨w.heap.size + 1, 1, none⟩ = some (.slice adb' b.next.length cpb') ∧ W.cell? ⟨w.heap.size + 1, 2, none⟩ = some (.slice adc' b.fin.length cpc') ∧ W.cell? ⟨S1, k, none⟩ = some (.func (.func fv) #[] #[]))) (by kernel_rfl) HS.out (fun _ => ?_)
        refine wpAnyH_take (i := 0) (v := .slice (some ⟨S1, 0, none⟩) 4 4) rfl (by kernel_rfl) (by kernel_rfl) (by kernel_rfl) (fun _ _ _ h => h) (Or.inl ⟨by rfl, fun w hS => by go_simp⟩) HS.out ?_
        simp only [Act.put, List.getElem_toArray, List.getElem_cons_zero, List.getElem_cons_succ, List.setIfInBounds_toArray, List.set_cons_zero, List.set_cons_succ]
        refine wpAnyH_take (i := 1) (v := .int .i64 k) rfl (by kernel_rfl) (by kernel_rfl) (by kernel_rfl) (fun _ _ _ h => h) (Or.inl ⟨by rfl, fun w hS => by go_simp⟩) HS.out ?_
        simp only [Act.put, List.getElem_toArray, List.getElem_cons_zero, List.getElem_cons_succ, List.setIfInBounds_toArray, List.set_cons_zero, List.set_cons_succ]
        refine wpAnyH_take (i := 2) (v := .pointer (some ⟨S1, k, none⟩)) rfl (by kernel_rfl) (by kernel_rfl) (by kernel_rfl) (fun _ _ _ h => h) (Or.inl ⟨by rfl, fun w hS => by go_simp⟩) HS.out ?_
        simp only [Act.put, List.getElem_toArray, List.getElem_cons_zero, List.getElem_cons_succ, List.setIfInBounds_toArray, List.set_cons_zero, List.set_cons_succ]
        refine wpAnyH_take (i := 3) (v := .func (.func fv) #[] #[]) rfl (by kernel_rfl) (by kernel_rfl) (by kernel_rfl) (fun _ _ _ h => h) (Or.inl ⟨by rfl, fun w hS => by have k6 := hS.2.2.2.2.2.2; go_simp⟩) HS.out ?_
        simp only [Act.put, List.getElem_toArray, List.getElem_cons_zero, List.getElem_cons_succ, List.setIfInBounds_toArray, List.set_cons_zero, List.set_cons_succ]
        refine wpAnyH_take (i := 4) (v := .agg #[.slice ada a.cls.length cpa, .slice adb a.next.length cpb, .slice adc a.fin.length cpc]) rfl (by kernel_rfl) (by kernel_rfl) (by kernel_rfl) (fun _ _ _ h => h) (Or.inl ⟨by rfl, fun w hS => by have k0 := hS.1; have k1 := hS.2.1; have k2 := hS.2.2.1; go_simp⟩) HS.out ?_
        simp only [Act.put, List.getElem_toArray, List.getElem_cons_zero, List.getElem_cons_succ, List.setIfInBounds_toArray, List.set_cons_zero, List.set_cons_succ]
        refine wpAnyH_take (i := 5) (v := .agg #[.slice ada' b.cls.length cpa', .slice adb' b.next.length cpb', .slice adc' b.fin.length cpc']) rfl (by kernel_rfl) (by kernel_rfl) (by kernel_rfl) (fun _ _ _ h => h) (Or.inl ⟨by rfl, fun w hS => by have k3 := hS.2.2.2.1; have k4 := hS.2.2.2.2.1; have k5 := hS.2.2.2.2.2.1; go_simp⟩) HS.out ?_
        simp only [Act.put, List.getElem_toArray, List.getElem_cons_zero, List.getElem_cons_succ, List.setIfInBounds_toArray, List.set_cons_zero, List.set_cons_succ]
        refine wpAnyH_ready (rs := [6, 10]) (by kernel_rfl) (by simp) (AllReadyH.cons rfl (fun K hK => ?_) (AllReadyH.cons rfl (fun K hK => ?_) AllReadyH.nil))
        · go_simp
          refine HJ.out _ _ _ _ _ _ _ _ _ _ _ (DfaIn.frame HAD.out (F' := fun q => q < w.heap.size + 2) (fun _ h => h) (fun q hq _ => HCUR.out.block q (Nat.lt_of_lt_of_le hq Ha.out.le))) (DfaIn.frame HBD.out (F' := fun q => q < w.heap.size + 2) (fun _ h => h) (fun q hq _ => HCUR.out.block q (Nat.lt_of_lt_of_le hq Hb.out.le))) (fun q hq => Nat.lt_of_lt_of_le (Nat.lt_of_lt_of_le hq Ha.out.le) HCUR.out.size) (fun q hq => Nat.lt_of_lt_of_le (Nat.lt_of_lt_of_le hq Hb.out.le) HCUR.out.size) (HT.out _ (HB.out.trans (HCUR.out.mono HB.out.size))) _ _ _ _ ?_
          intro v w3 hp
          rw [HX.out] at hp
          obtain ⟨x1, c1, x2, c2, x3, c3, he, hd, hb⟩ := hp.open'
          cases he
          dsimp only [outX] at hd ⊢
          have HD := hid hd
          have HPB' := hid hb
          have HCUR := hid (HCUR.out.trans (hb.mono HCUR.out.size))
          have HS := hid (HKP.out _ HCUR.out)
          refine hK.out _ _ HS.out (fun _ => ?_)
          clear hK K hb hd hp
          simp only [Act.put, List.getElem_toArray, List.getElem_cons_zero, List.getElem_cons_succ, List.setIfInBounds_toArray, List.set_cons_zero, List.set_cons_succ]
          refine wpAnyH_take (i := 7) (v := .tuple #[.agg #[.slice x1 d.cls.length c1, .slice x2 d.next.length c2, .slice x3 d.fin.length c3], .int .i64 0]) rfl (by kernel_rfl) (by kernel_rfl) (by kernel_rfl) (fun _ _ _ h => h) (Or.inl ⟨by rfl, fun w hS => by go_simp⟩) HS.out ?_
          simp only [Act.put, List.getElem_toArray, List.getElem_cons_zero, List.getElem_cons_succ, List.setIfInBounds_toArray, List.set_cons_zero, List.set_cons_succ]
          refine wpAnyH_take (i := 8) (v := .agg #[.slice x1 d.cls.length c1, .slice x2 d.next.length c2, .slice x3 d.fin.length c3]) rfl (by kernel_rfl) (by kernel_rfl) (by kernel_rfl) (fun _ _ _ h => h) (Or.inl ⟨by rfl, fun w hS => by go_simp⟩) HS.out ?_
          simp only [Act.put, List.getElem_toArray, List.getElem_cons_zero, List.getElem_cons_succ, List.setIfInBounds_toArray, List.set_cons_zero, List.set_cons_succ]
          refine wpAnyH_take (i := 9) (v := .int .i64 0) rfl (by kernel_rfl) (by kernel_rfl) (by kernel_rfl) (fun _ _ _ h => h) (Or.inl ⟨by rfl, fun w hS => by go_simp⟩) HS.out ?_
          simp only [Act.put, List.getElem_toArray, List.getElem_cons_zero, List.getElem_cons_succ, List.setIfInBounds_toArray, List.set_cons_zero, List.set_cons_succ]
          refine wpAnyH_ready (rs := [10]) (by kernel_rfl) (by simp) (AllReadyH.cons rfl (fun K hK => ?_) AllReadyH.nil)
          go_simp
          have hzr : wr.heap.size ≤ w3.heap.size := HCUR.out.size
          have HPB := hid (show (w3.alloc (.cells #[.slice none 0 0, .slice none 0 0, .slice none 0 0] 30)).heap[w3.heap.size]? = some (.cells #[.slice none 0 0, .slice none 0 0, .slice none 0 0] 30 (0, 0)) from heap_alloc_new _ _)
          have HPK := hid (fun (g : Nat) (_ : wr.heap.size ≤ g) (h2 : g < w3.heap.size) => (show (w3.alloc (.cells #[.slice none 0 0, .slice none 0 0, .slice none 0 0] 30)).heap[g]? = w3.heap[g]? from alloc_old h2))
          have HPZ := hid (show w3.heap.size ≤ (w3.alloc (.cells #[.slice none 0 0, .slice none 0 0, .slice none 0 0] 30)).heap.size by simp)
          have HCUR := hid (show Below wr.heap.size wr (w3.alloc (.cells #[.slice none 0 0, .slice none 0 0, .slice none 0 0] 30)) from HCUR.out.alloc hzr _)
          have HS := hid (HKP.out _ HCUR.out)
          refine hK.out _ _ HS.out (fun _ => ?_)
          clear hK K
          obtain ⟨P, hP⟩ : ∃ P, P = w3.heap.size := ⟨_, rfl⟩
          have HPN := hid (fun (g : Nat) (_ : wr.heap.size ≤ g) (h2 : g < w3.heap.size) => (show g ≠ P by rw [hP]; exact Nat.ne_of_lt h2))
          have HPL := hid (show wr.heap.size ≤ P by rw [hP]; exact hzr)
          generalize w3.alloc (.cells #[.slice none 0 0, .slice none 0 0, .slice none 0 0] 30) = w4 at *
          have HPB : Hid (w4.heap[P]? = some (.cells #[.slice none 0 0, .slice none 0 0, .slice none 0 0] 30 (0, 0))) := hid (by rw [hP]; exact HPB.out)
          rw [← hP]
          clear hP hzr
          have d0 := cell_blk (i := 0) HPB.out rfl
          have d1 := cell_blk (i := 1) HPB.out rfl
          have d2 := cell_blk (i := 2) HPB.out rfl
          have d3 := free_box (i := 0) HPB.out
          have d4 := free_box (i := 1) HPB.out
          have d5 := free_box (i := 2) HPB.out
          refine wpAnyH_ready (rs := [11]) (by kernel_rfl) (by simp) (AllReadyH.cons rfl (fun K hK => ?_) AllReadyH.nil)
          go_simp
          have hpb := three_all (.slice x1 d.cls.length c1) (.slice x2 d.next.length c2) (.slice x3 d.fin.length c3) HPB.out
          have HCUR := hid (show Below wr.heap.size wr (((w4.setCell ⟨P, 0, none⟩ (.slice x1 d.cls.length c1)).setCell ⟨P, 1, none⟩ (.slice x2 d.next.length c2)).setCell ⟨P, 2, none⟩ (.slice x3 d.fin.length c3)) from ((HCUR.out.setCell HPL.out _).setCell HPL.out _).setCell HPL.out _)
          have HS := hid (HKP.out _ HCUR.out)
          refine hK.out _ _ HS.out (fun _ => ?_)
          clear hK K d0 d1 d2 d3 d4 d5
          have HBO := hid (ABox.born HD.out (W := (((w4.setCell ⟨P, 0, none⟩ (.slice x1 d.cls.length c1)).setCell ⟨P, 1, none⟩ (.slice x2 d.next.length c2)).setCell ⟨P, 2, none⟩ (.slice x3 d.fin.length c3))) (fun g h1 h2 => (heap_setCell_other _ _ _ _ (HPN.out g h1 h2)).trans ((heap_setCell_other _ _ _ _ (HPN.out g h1 h2)).trans ((heap_setCell_other _ _ _ _ (HPN.out g h1 h2)).trans (HPK.out g h1 h2)))) (by simpa using HPZ.out) hpb)
          clear hpb
          generalize (((w4.setCell ⟨P, 0, none⟩ (.slice x1 d.cls.length c1)).setCell ⟨P, 1, none⟩ (.slice x2 d.next.length c2)).setCell ⟨P, 2, none⟩ (.slice x3 d.fin.length c3)) = w5 at *
          refine wpAnyH_take (i := 12) (v := .int .i64 0) rfl (by kernel_rfl) (by kernel_rfl) (by kernel_rfl) (fun _ _ _ h => h) (Or.inl ⟨by rfl, fun w hS => by go_simp⟩) HS.out ?_
          simp only [Act.put, List.getElem_toArray, List.getElem_cons_zero, List.getElem_cons_succ, List.setIfInBounds_toArray, List.set_cons_zero, List.set_cons_succ]
          refine wpAnyH_done (by kernel_rfl) ?_ _
          have Ha := hid (Ha.out.below (HCUR.out.mono Ha.out.le))
          have Hb := hid (Hb.out.below (HCUR.out.mono Hb.out.le))
          have HBl := hid (HBl.out.trans (HCUR.out.mono HBl.out.size))
          have HB := hid (HB.out.trans (HCUR.out.mono HB.out.size))
          obtain ⟨q0, q1, q2⟩ := HBO.out.cells
          have hc := takes_any HBO.out.dfa HBO.out.fits t h1000
          rw [HTK.out] at hc
          go_wp2_with fail
          refine hc.mono ?_
          clear hc q0 q1 q2
          rintro e w6 ⟨rfl, hb6⟩
          have HBl := hid (HBl.out.trans (hb6.mono HBl.out.size))
          clear hb6
          have s2 := S2K.out w6 HBl.out
          clear HFB HTK
          cases fb
          all_goals go_wp2_with fail
          all_goals refine And.intro ?_ ?_
          all_goals first
            | exact ⟨k + 1, by omega, by go_num, HBl.out⟩
            | (simp [intOf]; omega)
        · go_simp
          have HPB := hid (show ((wr.alloc (.cells #[.slice none 0 0, .slice none 0 0, .slice none 0 0] 30)).drew).heap[wr.heap.size]? = some (.cells #[.slice none 0 0, .slice none 0 0, .slice none 0 0] 30 (0, 0)) from heap_alloc_new _ _)
          have HZB := hid (show ((wr.alloc (.cells #[.slice none 0 0, .slice none 0 0, .slice none 0 0] 30)).drew).heap.size = wr.heap.size + 1 by simp)
          have HCUR := hid (show Below wr.heap.size wr ((wr.alloc (.cells #[.slice none 0 0, .slice none 0 0, .slice none 0 0] 30)).drew) from ((Below.refl _ _).alloc (Nat.le_refl _) _).drew)
          have HS := hid (HKP.out _ HCUR.out)
          refine hK.out _ _ HS.out (fun _ => ?_)
          clear hK K
          generalize (wr.alloc (.cells #[.slice none 0 0, .slice none 0 0, .slice none 0 0] 30)).drew = wb at *
          refine wpAnyH_ready (rs := [6]) (by kernel_rfl) (by simp) (AllReadyH.cons rfl (fun K hK => ?_) AllReadyH.nil)
          go_simp
          refine HJ.out _ _ _ _ _ _ _ _ _ _ _ (DfaIn.frame HAD.out (F' := fun q => q < w.heap.size + 2) (fun _ h => h) (fun q hq _ => HCUR.out.block q (Nat.lt_of_lt_of_le hq Ha.out.le))) (DfaIn.frame HBD.out (F' := fun q => q < w.heap.size + 2) (fun _ h => h) (fun q hq _ => HCUR.out.block q (Nat.lt_of_lt_of_le hq Hb.out.le))) (fun q hq => Nat.lt_of_lt_of_le (Nat.lt_of_lt_of_le hq Ha.out.le) HCUR.out.size) (fun q hq => Nat.lt_of_lt_of_le (Nat.lt_of_lt_of_le hq Hb.out.le) HCUR.out.size) (HT.out _ (HB.out.trans (HCUR.out.mono HB.out.size))) _ _ _ _ ?_
          intro v w3 hp
          rw [HX.out] at hp
          obtain ⟨x1, c1, x2, c2, x3, c3, he, hd, hb⟩ := hp.open'
          cases he
          dsimp only [outX] at hd ⊢
          have HD := hid hd
          have HPB' := hid hb
          have HCUR := hid (HCUR.out.trans (hb.mono HCUR.out.size))
          have HS := hid (HKP.out _ HCUR.out)
          refine hK.out _ _ HS.out (fun _ => ?_)
          clear hK K hb hd hp
          simp only [Act.put, List.getElem_toArray, List.getElem_cons_zero, List.getElem_cons_succ, List.setIfInBounds_toArray, List.set_cons_zero, List.set_cons_succ]
          refine wpAnyH_take (i := 7) (v := .tuple #[.agg #[.slice x1 d.cls.length c1, .slice x2 d.next.length c2, .slice x3 d.fin.length c3], .int .i64 0]) rfl (by kernel_rfl) (by kernel_rfl) (by kernel_rfl) (fun _ _ _ h => h) (Or.inl ⟨by rfl, fun w hS => by go_simp⟩) HS.out ?_
          simp only [Act.put, List.getElem_toArray, List.getElem_cons_zero, List.getElem_cons_succ, List.setIfInBounds_toArray, List.set_cons_zero, List.set_cons_succ]
          refine wpAnyH_take (i := 8) (v := .agg #[.slice x1 d.cls.length c1, .slice x2 d.next.length c2, .slice x3 d.fin.length c3]) rfl (by kernel_rfl) (by kernel_rfl) (by kernel_rfl) (fun _ _ _ h => h) (Or.inl ⟨by rfl, fun w hS => by go_simp⟩) HS.out ?_
          simp only [Act.put, List.getElem_toArray, List.getElem_cons_zero, List.getElem_cons_succ, List.setIfInBounds_toArray, List.set_cons_zero, List.set_cons_succ]
          refine wpAnyH_take (i := 9) (v := .int .i64 0) rfl (by kernel_rfl) (by kernel_rfl) (by kernel_rfl) (fun _ _ _ h => h) (Or.inl ⟨by rfl, fun w hS => by go_simp⟩) HS.out ?_
          simp only [Act.put, List.getElem_toArray, List.getElem_cons_zero, List.getElem_cons_succ, List.setIfInBounds_toArray, List.set_cons_zero, List.set_cons_succ]
          obtain ⟨P, hP⟩ : ∃ P, P = wr.heap.size := ⟨_, rfl⟩
          have HPB : Hid (w3.heap[P]? = some (.cells #[.slice none 0 0, .slice none 0 0, .slice none 0 0] 30 (0, 0))) := hid (by rw [hP]; exact (HPB'.out.block wr.heap.size (by rw [HZB.out]; omega)).trans HPB.out)
          have HPN := hid (fun (g : Nat) (h1 : wb.heap.size ≤ g) (_ : g < w3.heap.size) => (show g ≠ P by have := HZB.out; omega))
          have HPL := hid (show wr.heap.size ≤ P by rw [hP]; exact Nat.le_refl _)
          obtain ⟨w4, hw4⟩ : ∃ w4, w4 = w3 := ⟨_, rfl⟩
          have HPB : Hid (w4.heap[P]? = some (.cells #[.slice none 0 0, .slice none 0 0, .slice none 0 0] 30 (0, 0))) := hid (by rw [hw4]; exact HPB.out)
          have HPK := hid (fun (g : Nat) (_ : wb.heap.size ≤ g) (_ : g < w3.heap.size) => (show w4.heap[g]? = w3.heap[g]? by rw [hw4]))
          have HPZ := hid (show w3.heap.size ≤ w4.heap.size by rw [hw4]; exact Nat.le_refl _)
          have HCUR : Hid (Below wr.heap.size wr w4) := hid (by rw [hw4]; exact HCUR.out)
          have HS := hid (HKP.out _ HCUR.out)
          rw [← hP, ← hw4]
          clear hP hw4
          have d0 := cell_blk (i := 0) HPB.out rfl
          have d1 := cell_blk (i := 1) HPB.out rfl
          have d2 := cell_blk (i := 2) HPB.out rfl
          have d3 := free_box (i := 0) HPB.out
          have d4 := free_box (i := 1) HPB.out
          have d5 := free_box (i := 2) HPB.out
          refine wpAnyH_ready (rs := [11]) (by kernel_rfl) (by simp) (AllReadyH.cons rfl (fun K hK => ?_) AllReadyH.nil)
          go_simp
          have hpb := three_all (.slice x1 d.cls.length c1) (.slice x2 d.next.length c2) (.slice x3 d.fin.length c3) HPB.out
          have HCUR := hid (show Below wr.heap.size wr (((w4.setCell ⟨P, 0, none⟩ (.slice x1 d.cls.length c1)).setCell ⟨P, 1, none⟩ (.slice x2 d.next.length c2)).setCell ⟨P, 2, none⟩ (.slice x3 d.fin.length c3)) from ((HCUR.out.setCell HPL.out _).setCell HPL.out _).setCell HPL.out _)
          have HS := hid (HKP.out _ HCUR.out)
          refine hK.out _ _ HS.out (fun _ => ?_)
          clear hK K d0 d1 d2 d3 d4 d5
          have HBO := hid (ABox.born HD.out (W := (((w4.setCell ⟨P, 0, none⟩ (.slice x1 d.cls.length c1)).setCell ⟨P, 1, none⟩ (.slice x2 d.next.length c2)).setCell ⟨P, 2, none⟩ (.slice x3 d.fin.length c3))) (fun g h1 h2 => (heap_setCell_other _ _ _ _ (HPN.out g h1 h2)).trans ((heap_setCell_other _ _ _ _ (HPN.out g h1 h2)).trans ((heap_setCell_other _ _ _ _ (HPN.out g h1 h2)).trans (HPK.out g h1 h2)))) (by simpa using HPZ.out) hpb)
          clear hpb
          generalize (((w4.setCell ⟨P, 0, none⟩ (.slice x1 d.cls.length c1)).setCell ⟨P, 1, none⟩ (.slice x2 d.next.length c2)).setCell ⟨P, 2, none⟩ (.slice x3 d.fin.length c3)) = w5 at *
          refine wpAnyH_take (i := 12) (v := .int .i64 0) rfl (by kernel_rfl) (by kernel_rfl) (by kernel_rfl) (fun _ _ _ h => h) (Or.inl ⟨by rfl, fun w hS => by go_simp⟩) HS.out ?_
          simp only [Act.put, List.getElem_toArray, List.getElem_cons_zero, List.getElem_cons_succ, List.setIfInBounds_toArray, List.set_cons_zero, List.set_cons_succ]
          refine wpAnyH_done (by kernel_rfl) ?_ _
          have Ha := hid (Ha.out.below (HCUR.out.mono Ha.out.le))
          have Hb := hid (Hb.out.below (HCUR.out.mono Hb.out.le))
          have HBl := hid (HBl.out.trans (HCUR.out.mono HBl.out.size))
          have HB := hid (HB.out.trans (HCUR.out.mono HB.out.size))
          obtain ⟨q0, q1, q2⟩ := HBO.out.cells
          have hc := takes_any HBO.out.dfa HBO.out.fits t h1000
          rw [HTK.out] at hc
          go_wp2_with fail
          refine hc.mono ?_
          clear hc q0 q1 q2
          rintro e w6 ⟨rfl, hb6⟩
          have HBl := hid (HBl.out.trans (hb6.mono HBl.out.size))
          clear hb6
          have s2 := S2K.out w6 HBl.out
          clear HFB HTK
          cases fb
          all_goals go_wp2_with fail
          all_goals refine And.intro ?_ ?_
          all_goals first
            | exact ⟨k + 1, by omega, by go_num, HBl.out⟩
            | (simp [intOf]; omega)
    · have hk4 : ¬ ((k : Int) < 4) := by omega
      clear hlt hk
      obtain ⟨dk, hdk⟩ := not_some HOA.out
      have htk := (not_law hdk).2.2.2.2.2
      have HNK := hid hdk
      have HTK := hid (show takesM dk t.data.toList = (!true, 0) by rw [htk, HTA.out])
      clear hdk htk
      go_upto_region 17 with fail
      obtain ⟨p00, p01, p02⟩ := Ha.out.cells
      have hc := bnot_any Ha.out.dfa Ha.out.fits
      rw [HNK.out] at hc
      go_wp2_with fail
      refine hc.mono ?_
      clear hc p00 p01 p02
      rintro e w21 hp
      obtain ⟨x1, c1, x2, c2, x3, c3, rfl, hd, hb⟩ := hp.open'
      rw [show outX (Except.ok dk) = (dk, 0) from rfl] at hd ⊢
      dsimp only at hd ⊢
      have HD := hid hd
      have Ha := hid (Ha.out.below (hb.mono Ha.out.le))
      have HB := hid (HB.out.trans (hb.mono HB.out.size))
      clear hd hb hp
      go_upto_region 18 with fail
      have hA := ABox.new HD.out
      generalize hW : w21.alloc (.cells #[.slice x1 dk.cls.length c1, .slice x2 dk.next.length c2, .slice x3 dk.fin.length c3] 30) = v21 at *
      have hb : Below w21.heap.size w21 v21 := by rw [← hW]; exact (Below.refl _ _).alloc (Nat.le_refl _) _
      have Hk := hid hA
      have Ha := hid (Ha.out.below (hb.mono Ha.out.le))
      have HB := hid (HB.out.trans (hb.mono HB.out.size))
      clear hW HD hA hb
      obtain ⟨p00, p01, p02⟩ := Hk.out.cells
      have hc := takes_any Hk.out.dfa Hk.out.fits t h1000
      rw [HTK.out] at hc
      go_wp2_with fail
      refine hc.mono ?_
      clear hc p00 p01 p02
      rintro e w22 ⟨rfl, hb⟩
      have Ha := hid (Ha.out.below (hb.mono Ha.out.le))
      have Hk := hid (Hk.out.below (hb.mono Hk.out.le))
      have HB := hid (HB.out.trans (hb.mono HB.out.size))
      clear hb
      have haw := awake12_any _ (HT.out _ HB.out)
      go_wp2_with fail
      refine haw.mono ?_
      clear haw
      rintro e w23 ⟨rfl, hb⟩
      have HB := hid (HB.out.trans (hb.mono HB.out.size))
      clear hb
      go_wp2_with fail
      go_ret
      exact ⟨rfl, HB.out⟩
set_option maxRecDepth 100000 in
set_option maxHeartbeats 16000000 in
theorem take_tt {F G : Nat → Prop} {w : World} {a1 a2 a3 b1 b2 b3 : Value} {a b : Dfa} (ha : DfaIn F w a1 a2 a3 a) (hb : DfaIn G w b1 b2 b3 b) (hF : ∀ g, F g → g < w.heap.size) (hG : ∀ g, G g → g < w.heap.size) (t : ByteArray) (ht : t.size ≤ 140737488351232) (hT : Tab w) (hoka : dfaOk a = true) (hokb : dfaOk b = true) (hta : takesM a t.data.toList = (true, 0)) (htb : takesM b t.data.toList = (true, 0)) :
    Calls Tryd.prog 9 #[.agg #[a1, a2, a3], .agg #[b1, b2, b3], .string t] w (AwPost w) := by
  have HTA := hid hta
  have HTB := hid htb
  have HOA := hid hoka
  have HOB := hid hokb
  clear hta htb hoka hokb
  obtain ⟨W0, hW0⟩ : ∃ W0, W0 = (w.alloc (.cells #[a1, a2, a3] 30)).alloc (.cells #[b1, b2, b3] 30) := ⟨_, rfl⟩
  have hA0 : W0.heap[w.heap.size]? = some (.cells #[a1, a2, a3] 30 (0, 0)) := by rw [hW0]; exact (alloc_old (by simp)).trans (heap_alloc_new _ _)
  have hC0 : W0.heap[w.heap.size + 1]? = some (.cells #[b1, b2, b3] 30 (0, 0)) := by rw [hW0]; exact newB _ _ _
  have hB0 : Below w.heap.size w W0 := by rw [hW0]; exact ((Below.refl _ _).alloc (Nat.le_refl _) _).alloc (by simp) _
  have hz0 : W0.heap.size = w.heap.size + 2 := by rw [hW0]; simp
  obtain ⟨ada, cpa, rfl, hma, _⟩ := ha.cls
  obtain ⟨adb, cpb, rfl, hmb, _⟩ := ha.next
  obtain ⟨adc, cpc, rfl, hmc, _⟩ := ha.fin
  obtain ⟨ada', cpa', rfl, hma', _⟩ := hb.cls
  obtain ⟨adb', cpb', rfl, hmb', _⟩ := hb.next
  obtain ⟨adc', cpc', rfl, hmc', _⟩ := hb.fin
  unfold maxLen at hma hmb hmc hma' hmb' hmc'
  have Ha := hid (ABox.arg (L := w.heap.size + 2) ha hF hB0 hA0 (by omega) (by omega) (by omega))
  have Hb := hid (ABox.arg (L := w.heap.size + 2) hb hG hB0 hC0 (by omega) (by omega) (by omega))
  have HB := hid hB0
  have HT := hid (fun (W : World) (h : Below w.heap.size w W) => (show Tab W from hT.below h))
  have HW0 := hid hW0
  clear ha hb hF hG hT hA0 hC0 hB0 hW0 hz0
  obtain ⟨p00, p01, p02⟩ := Ha.out.cells
  obtain ⟨p10, p11, p12⟩ := Hb.out.cells
  have hc := few_shows Ha.out.dfa Ha.out.fits
  go_enter Tryd.func9, Tryd.ntmps9
  go_upto_region 1 with fail
  rw [← HW0.out]
  clear HW0
  go_wp2_with fail
  refine hc.mono ?_
  clear hc p00 p01 p02 p10 p11 p12
  rintro e w0 ⟨⟨xa, rfl, hfa⟩, hb⟩
  have Ha := hid (Ha.out.below (hb.mono Ha.out.le))
  have Hb := hid (Hb.out.below (hb.mono Hb.out.le))
  have HB := hid (HB.out.trans (hb.mono HB.out.size))
  have HFA := hid hfa
  clear hb hfa
  cases xa with
  | false =>
    go_wp2_with fail
    go_ret
    exact ⟨rfl, HB.out⟩
  | true =>
  obtain ⟨p10, p11, p12⟩ := Hb.out.cells
  have hc := few_shows Hb.out.dfa Hb.out.fits
  go_wp2_with fail
  refine hc.mono ?_
  clear hc p10 p11 p12
  rintro e w1 ⟨⟨xb, rfl, hfb⟩, hb⟩
  have Ha := hid (Ha.out.below (hb.mono Ha.out.le))
  have Hb := hid (Hb.out.below (hb.mono Hb.out.le))
  have HB := hid (HB.out.trans (hb.mono HB.out.size))
  have HFB := hid hfb
  clear hb hfb HFA
  cases xb with
  | false =>
    go_wp2_with fail
    go_ret
    exact ⟨rfl, HB.out⟩
  | true =>
  clear HFB
  by_cases h100 : 100 < t.size
  · have h100' : (100 : Int) < (t.size : Int) := by omega
    go_wp2_with fail
    go_ret
    exact ⟨rfl, HB.out⟩
  have h100' : ¬ ((100 : Int) < (t.size : Int)) := by omega
  go_upto_region 3 with fail
  have h1000 : t.size ≤ 1000 := by omega
  clear h100 h100'
  obtain ⟨p00, p01, p02⟩ := Ha.out.cells
  have hc := takes_any Ha.out.dfa Ha.out.fits t h1000
  rw [HTA.out] at hc
  go_wp2_with fail
  refine hc.mono ?_
  clear hc p00 p01 p02
  rintro e w2 ⟨rfl, hb⟩
  have Ha := hid (Ha.out.below (hb.mono Ha.out.le))
  have Hb := hid (Hb.out.below (hb.mono Hb.out.le))
  have HB := hid (HB.out.trans (hb.mono HB.out.size))
  clear hb
  obtain ⟨p00, p01, p02⟩ := Hb.out.cells
  have hc := takes_any Hb.out.dfa Hb.out.fits t h1000
  rw [HTB.out] at hc
  go_wp2_with fail
  refine hc.mono ?_
  clear hc p00 p01 p02
  rintro e w3 ⟨rfl, hb⟩
  have Ha := hid (Ha.out.below (hb.mono Ha.out.le))
  have Hb := hid (Hb.out.below (hb.mono Hb.out.le))
  have HB := hid (HB.out.trans (hb.mono HB.out.size))
  clear hb
  go_upto_region 8 with fail
  have hzs := HB.out.size
  obtain ⟨WS, hWS⟩ : ∃ WS, WS = w3.alloc (.cells #[.func (.func 29) #[] #[], .func (.func 30) #[] #[], .func (.func 31) #[] #[], .func (.func 32) #[] #[]] 51) := ⟨_, rfl⟩
  have hb : Below w3.heap.size w3 WS := by rw [hWS]; exact (Below.refl _ _).alloc (Nat.le_refl _) _
  have HS1 := hid (show WS.heap[w3.heap.size]? = some (.cells #[.func (.func 29) #[] #[], .func (.func 30) #[] #[], .func (.func 31) #[] #[], .func (.func 32) #[] #[]] 51 (0, 0)) by rw [hWS]; exact heap_alloc_new _ _)
  rw [← hWS]
  have Ha := hid (Ha.out.below (hb.mono Ha.out.le))
  have Hb := hid (Hb.out.below (hb.mono Hb.out.le))
  have HB := hid (HB.out.trans (hb.mono HB.out.size))
  clear hb hWS hzs
  generalize w3.heap.size = S1 at *
  go_upto_region 9 with fail
  obtain ⟨Wl, hWl⟩ : ∃ Wl, Wl = WS.alloc (.cells #[.bool true, .bool true, .bool false, .bool false] 4) := ⟨_, rfl⟩
  have hb : Below WS.heap.size WS Wl := by rw [hWl]; exact (Below.refl _ _).alloc (Nat.le_refl _) _
  have HS2 := hid (show Wl.heap[WS.heap.size]? = some (.cells #[.bool true, .bool true, .bool false, .bool false] 4 (0, 0)) by rw [hWl]; exact heap_alloc_new _ _)
  have HS1 := hid ((hb.block _ (lt_of_heap HS1.out)).trans HS1.out)
  rw [← hWl]
  have Ha := hid (Ha.out.below (hb.mono Ha.out.le))
  have Hb := hid (Hb.out.below (hb.mono Hb.out.le))
  have HB := hid (HB.out.trans (hb.mono HB.out.size))
  clear hb hWl
  generalize WS.heap.size = S2 at *
  have hs1 := lt_of_heap HS1.out
  have hs2 := lt_of_heap HS2.out
  have HAl := hid Ha.out
  have HCl := hid Hb.out
  have HBw := hid HB.out
  have HBl := hid (Below.refl Wl.heap.size Wl)
  clear Ha Hb HB
  go_wp2_with fail
  go_loopw [13] (fun i wr => ∃ k : Nat, k ≤ 4 ∧ i = .int .i64 k ∧ Below Wl.heap.size Wl wr) (fun i _ => 4 - (intOf i).toNat)
  case atStart => exact ⟨0, by decide, rfl, HBl.out⟩
  case round =>
    obtain ⟨k, hk, rfl, hbl⟩ := hrel
    have HBl := hid hbl
    have Ha := hid (HAl.out.below (hbl.mono HAl.out.le))
    have Hb := hid (HCl.out.below (hbl.mono HCl.out.le))
    have HB := hid (HBw.out.trans (hbl.mono HBw.out.size))
    have hs1w : S1 < wr.heap.size := Nat.lt_of_lt_of_le hs1 hbl.size
    clear hbl
    by_cases hlt : k < 4
    · obtain ⟨fv, f, fb, hs1k, hs2k, hj, hfb⟩ : ∃ (fv : FuncId) (f : Bool → Bool → Bool) (fb : Bool), Wl.cell? ⟨S1, k, none⟩ = some (.func (.func fv) #[] #[]) ∧ Wl.cell? ⟨S2, k, none⟩ = some (.bool fb) ∧ JoinOk fv f ∧ f true true = fb := by
        match k, hlt with
        | 0, _ => exact ⟨_, _, _, cell_blk HS1.out rfl, cell_blk HS2.out rfl, jok_and, rfl⟩
        | 1, _ => exact ⟨_, _, _, cell_blk HS1.out rfl, cell_blk HS2.out rfl, jok_or, rfl⟩
        | 2, _ => exact ⟨_, _, _, cell_blk HS1.out rfl, cell_blk HS2.out rfl, jok_less, rfl⟩
        | 3, _ => exact ⟨_, _, _, cell_blk HS1.out rfl, cell_blk HS2.out rfl, jok_apart, rfl⟩
      have HJ := hid hj
      have s1 := (HBl.out.cell (p := ⟨S1, k, none⟩) hs1).trans hs1k
      have S2K := hid (fun (W : World) (h : Below Wl.heap.size Wl W) => (h.cell (p := ⟨S2, k, none⟩) hs2).trans hs2k)
      have HFB := hid hfb
      have HAD := hid Ha.out.dfa
      have HBD := hid Hb.out.dfa
      obtain ⟨p00, p01, p02⟩ := Ha.out.cells
      obtain ⟨p10, p11, p12⟩ := Hb.out.cells
      have hkI : (k : Int) < 4 := by omega
      clear hs1k hs2k hj hfb hs1
      have hs1 := hs1w
      cases hx : joinM f a b with
      | error er =>
        obtain rfl := join_err HOA.out HOB.out hx
        have HX := hid hx
        clear hx
        go_upto_region 12 with fail
        have HKP := hid (fun (W : World) (h : Below wr.heap.size wr W) => (show (fun W : World => W.cell? ⟨w.heap.size, 0, none⟩ = some (.slice ada a.cls.length cpa) ∧ W.cell? ⟨w.heap.size, 1, none⟩ = some (.slice adb a.next.length cpb) ∧ W.cell? ⟨w.heap.size, 2, none⟩ = some (.slice adc a.fin.length cpc) ∧ W.cell? ⟨w.heap.size + 1, 0, none⟩ = some (.slice ada' b.cls.length cpa') ∧ W.cell? ⟨w.heap.size + 1, 1, none⟩ = some (.slice adb' b.next.length cpb') ∧ W.cell? ⟨w.heap.size + 1, 2, none⟩ = some (.slice adc' b.fin.length cpc') ∧ W.cell? ⟨S1, k, none⟩ = some (.func (.func fv) #[] #[])) W from ⟨(h.cell (Nat.lt_of_lt_of_le Ha.out.lt Ha.out.le)).trans p00, (h.cell (Nat.lt_of_lt_of_le Ha.out.lt Ha.out.le)).trans p01, (h.cell (Nat.lt_of_lt_of_le Ha.out.lt Ha.out.le)).trans p02, (h.cell (Nat.lt_of_lt_of_le Hb.out.lt Hb.out.le)).trans p10, (h.cell (Nat.lt_of_lt_of_le Hb.out.lt Hb.out.le)).trans p11, (h.cell (Nat.lt_of_lt_of_le Hb.out.lt Hb.out.le)).trans p12, (h.cell hs1).trans s1⟩))
        have HCUR := hid ((Below.refl wr.heap.size wr).drew)
        have HS := hid (HKP.out _ HCUR.out)
        clear p00 p01 p02 p10 p11 p12 s1
        refine wp_region_held_drew (S := (fun W : World => W.cell? ⟨w.heap.size, 0, none⟩ = some (.slice ada a.cls.length cpa) ∧ W.cell? ⟨w.heap.size, 1, none⟩ = some (.slice adb a.next.length cpb) ∧ W.cell? ⟨w.heap.size, 2, none⟩ = some (.slice adc a.fin.length cpc) ∧ W.cell? ⟨w.heap.size + 1, 0, none⟩ = some (.slice ada' b.cls.length cpa') ∧ W.cell? ⟨w.heap.size + 1, 1, none⟩ = some (.slice adb' b.next.length cpb') ∧ W.cell? ⟨w.heap.size + 1, 2, none⟩ = some (.slice adc' b.fin.length cpc') ∧ W.cell? ⟨S1, k, none⟩ = some (.func (.func fv) #[] #[]))) (by kernel_rfl) HS.out (fun _ => ?_)
        refine wpAnyH_take (i := 0) (v := .slice (some ⟨S1, 0, none⟩) 4 4) rfl (by kernel_rfl) (by kernel_rfl) (by kernel_rfl) (fun _ _ _ h => h) (Or.inl ⟨by rfl, fun w hS => by go_simp⟩) HS.out ?_
        simp only [Act.put, List.getElem_toArray, List.getElem_cons_zero, List.getElem_cons_succ, List.setIfInBounds_toArray, List.set_cons_zero, List.set_cons_succ]
        refine wpAnyH_take (i := 1) (v := .int .i64 k) rfl (by kernel_rfl) (by kernel_rfl) (by kernel_rfl) (fun _ _ _ h => h) (Or.inl ⟨by rfl, fun w hS => by go_simp⟩) HS.out ?_
        simp only [Act.put, List.getElem_toArray, List.getElem_cons_zero, List.getElem_cons_succ, List.setIfInBounds_toArray, List.set_cons_zero, List.set_cons_succ]
        refine wpAnyH_take (i := 2) (v := .pointer (some ⟨S1, k, none⟩)) rfl (by kernel_rfl) (by kernel_rfl) (by kernel_rfl) (fun _ _ _ h => h) (Or.inl ⟨by rfl, fun w hS => by go_simp⟩) HS.out ?_
        simp only [Act.put, List.getElem_toArray, List.getElem_cons_zero, List.getElem_cons_succ, List.setIfInBounds_toArray, List.set_cons_zero, List.set_cons_succ]
        refine wpAnyH_take (i := 3) (v := .func (.func fv) #[] #[]) rfl (by kernel_rfl) (by kernel_rfl) (by kernel_rfl) (fun _ _ _ h => h) (Or.inl ⟨by rfl, fun w hS => by have k6 := hS.2.2.2.2.2.2; go_simp⟩) HS.out ?_
        simp only [Act.put, List.getElem_toArray, List.getElem_cons_zero, List.getElem_cons_succ, List.setIfInBounds_toArray, List.set_cons_zero, List.set_cons_succ]
        refine wpAnyH_take (i := 4) (v := .agg #[.slice ada a.cls.length cpa, .slice adb a.next.length cpb, .slice adc a.fin.length cpc]) rfl (by kernel_rfl) (by kernel_rfl) (by kernel_rfl) (fun _ _ _ h => h) (Or.inl ⟨by rfl, fun w hS => by have k0 := hS.1; have k1 := hS.2.1; have k2 := hS.2.2.1; go_simp⟩) HS.out ?_
        simp only [Act.put, List.getElem_toArray, List.getElem_cons_zero, List.getElem_cons_succ, List.setIfInBounds_toArray, List.set_cons_zero, List.set_cons_succ]
        refine wpAnyH_take (i := 5) (v := .agg #[.slice ada' b.cls.length cpa', .slice adb' b.next.length cpb', .slice adc' b.fin.length cpc']) rfl (by kernel_rfl) (by kernel_rfl) (by kernel_rfl) (fun _ _ _ h => h) (Or.inl ⟨by rfl, fun w hS => by have k3 := hS.2.2.2.1; have k4 := hS.2.2.2.2.1; have k5 := hS.2.2.2.2.2.1; go_simp⟩) HS.out ?_
        simp only [Act.put, List.getElem_toArray, List.getElem_cons_zero, List.getElem_cons_succ, List.setIfInBounds_toArray, List.set_cons_zero, List.set_cons_succ]
        refine wpAnyH_ready (rs := [6, 10]) (by kernel_rfl) (by simp) (AllReadyH.cons rfl (fun K hK => ?_) (AllReadyH.cons rfl (fun K hK => ?_) AllReadyH.nil))
        · go_simp
          refine HJ.out _ _ _ _ _ _ _ _ _ _ _ (DfaIn.frame HAD.out (F' := fun q => q < w.heap.size + 2) (fun _ h => h) (fun q hq _ => HCUR.out.block q (Nat.lt_of_lt_of_le hq Ha.out.le))) (DfaIn.frame HBD.out (F' := fun q => q < w.heap.size + 2) (fun _ h => h) (fun q hq _ => HCUR.out.block q (Nat.lt_of_lt_of_le hq Hb.out.le))) (fun q hq => Nat.lt_of_lt_of_le (Nat.lt_of_lt_of_le hq Ha.out.le) HCUR.out.size) (fun q hq => Nat.lt_of_lt_of_le (Nat.lt_of_lt_of_le hq Hb.out.le) HCUR.out.size) (HT.out _ (HB.out.trans (HCUR.out.mono HB.out.size))) _ _ _ _ ?_
          intro v w3 hp
          rw [HX.out] at hp
          obtain ⟨x1, c1, x2, c2, x3, c3, he, hd, hb⟩ := hp.open'
          cases he
          dsimp only [outX] at hd ⊢
          have HD := hid hd
          have HPB' := hid hb
          have HCUR := hid (HCUR.out.trans (hb.mono HCUR.out.size))
          have HS := hid (HKP.out _ HCUR.out)
          refine hK.out _ _ HS.out (fun _ => ?_)
          clear hK K hb hd hp
          simp only [Act.put, List.getElem_toArray, List.getElem_cons_zero, List.getElem_cons_succ, List.setIfInBounds_toArray, List.set_cons_zero, List.set_cons_succ]
          refine wpAnyH_take (i := 7) (v := .tuple #[.agg #[.slice x1 Dfa.zero.cls.length c1, .slice x2 Dfa.zero.next.length c2, .slice x3 Dfa.zero.fin.length c3], .int .i64 2]) rfl (by kernel_rfl) (by kernel_rfl) (by kernel_rfl) (fun _ _ _ h => h) (Or.inl ⟨by rfl, fun w hS => by go_simp⟩) HS.out ?_
          simp only [Act.put, List.getElem_toArray, List.getElem_cons_zero, List.getElem_cons_succ, List.setIfInBounds_toArray, List.set_cons_zero, List.set_cons_succ]
          refine wpAnyH_take (i := 8) (v := .agg #[.slice x1 Dfa.zero.cls.length c1, .slice x2 Dfa.zero.next.length c2, .slice x3 Dfa.zero.fin.length c3]) rfl (by kernel_rfl) (by kernel_rfl) (by kernel_rfl) (fun _ _ _ h => h) (Or.inl ⟨by rfl, fun w hS => by go_simp⟩) HS.out ?_
          simp only [Act.put, List.getElem_toArray, List.getElem_cons_zero, List.getElem_cons_succ, List.setIfInBounds_toArray, List.set_cons_zero, List.set_cons_succ]
          refine wpAnyH_take (i := 9) (v := .int .i64 2) rfl (by kernel_rfl) (by kernel_rfl) (by kernel_rfl) (fun _ _ _ h => h) (Or.inl ⟨by rfl, fun w hS => by go_simp⟩) HS.out ?_
          simp only [Act.put, List.getElem_toArray, List.getElem_cons_zero, List.getElem_cons_succ, List.setIfInBounds_toArray, List.set_cons_zero, List.set_cons_succ]
          refine wpAnyH_ready (rs := [10]) (by kernel_rfl) (by simp) (AllReadyH.cons rfl (fun K hK => ?_) AllReadyH.nil)
          go_simp
          have hzr : wr.heap.size ≤ w3.heap.size := HCUR.out.size
          have HPB := hid (show (w3.alloc (.cells #[.slice none 0 0, .slice none 0 0, .slice none 0 0] 30)).heap[w3.heap.size]? = some (.cells #[.slice none 0 0, .slice none 0 0, .slice none 0 0] 30 (0, 0)) from heap_alloc_new _ _)
          have HPK := hid (fun (g : Nat) (_ : wr.heap.size ≤ g) (h2 : g < w3.heap.size) => (show (w3.alloc (.cells #[.slice none 0 0, .slice none 0 0, .slice none 0 0] 30)).heap[g]? = w3.heap[g]? from alloc_old h2))
          have HPZ := hid (show w3.heap.size ≤ (w3.alloc (.cells #[.slice none 0 0, .slice none 0 0, .slice none 0 0] 30)).heap.size by simp)
          have HCUR := hid (show Below wr.heap.size wr (w3.alloc (.cells #[.slice none 0 0, .slice none 0 0, .slice none 0 0] 30)) from HCUR.out.alloc hzr _)
          have HS := hid (HKP.out _ HCUR.out)
          refine hK.out _ _ HS.out (fun _ => ?_)
          clear hK K
          obtain ⟨P, hP⟩ : ∃ P, P = w3.heap.size := ⟨_, rfl⟩
          have HPN := hid (fun (g : Nat) (_ : wr.heap.size ≤ g) (h2 : g < w3.heap.size) => (show g ≠ P by rw [hP]; exact Nat.ne_of_lt h2))
          have HPL := hid (show wr.heap.size ≤ P by rw [hP]; exact hzr)
          generalize w3.alloc (.cells #[.slice none 0 0, .slice none 0 0, .slice none 0 0] 30) = w4 at *
          have HPB : Hid (w4.heap[P]? = some (.cells #[.slice none 0 0, .slice none 0 0, .slice none 0 0] 30 (0, 0))) := hid (by rw [hP]; exact HPB.out)
          rw [← hP]
          clear hP hzr
          have d0 := cell_blk (i := 0) HPB.out rfl
          have d1 := cell_blk (i := 1) HPB.out rfl
          have d2 := cell_blk (i := 2) HPB.out rfl
          have d3 := free_box (i := 0) HPB.out
          have d4 := free_box (i := 1) HPB.out
          have d5 := free_box (i := 2) HPB.out
          refine wpAnyH_ready (rs := [11]) (by kernel_rfl) (by simp) (AllReadyH.cons rfl (fun K hK => ?_) AllReadyH.nil)
          go_simp
          have hpb := three_all (.slice x1 Dfa.zero.cls.length c1) (.slice x2 Dfa.zero.next.length c2) (.slice x3 Dfa.zero.fin.length c3) HPB.out
          have HCUR := hid (show Below wr.heap.size wr (((w4.setCell ⟨P, 0, none⟩ (.slice x1 Dfa.zero.cls.length c1)).setCell ⟨P, 1, none⟩ (.slice x2 Dfa.zero.next.length c2)).setCell ⟨P, 2, none⟩ (.slice x3 Dfa.zero.fin.length c3)) from ((HCUR.out.setCell HPL.out _).setCell HPL.out _).setCell HPL.out _)
          have HS := hid (HKP.out _ HCUR.out)
          refine hK.out _ _ HS.out (fun _ => ?_)
          clear hK K d0 d1 d2 d3 d4 d5
          have HBO := hid (ABox.born HD.out (W := (((w4.setCell ⟨P, 0, none⟩ (.slice x1 Dfa.zero.cls.length c1)).setCell ⟨P, 1, none⟩ (.slice x2 Dfa.zero.next.length c2)).setCell ⟨P, 2, none⟩ (.slice x3 Dfa.zero.fin.length c3))) (fun g h1 h2 => (heap_setCell_other _ _ _ _ (HPN.out g h1 h2)).trans ((heap_setCell_other _ _ _ _ (HPN.out g h1 h2)).trans ((heap_setCell_other _ _ _ _ (HPN.out g h1 h2)).trans (HPK.out g h1 h2)))) (by simpa using HPZ.out) hpb)
          clear hpb
          generalize (((w4.setCell ⟨P, 0, none⟩ (.slice x1 Dfa.zero.cls.length c1)).setCell ⟨P, 1, none⟩ (.slice x2 Dfa.zero.next.length c2)).setCell ⟨P, 2, none⟩ (.slice x3 Dfa.zero.fin.length c3)) = w5 at *
          refine wpAnyH_take (i := 12) (v := .int .i64 2) rfl (by kernel_rfl) (by kernel_rfl) (by kernel_rfl) (fun _ _ _ h => h) (Or.inl ⟨by rfl, fun w hS => by go_simp⟩) HS.out ?_
          simp only [Act.put, List.getElem_toArray, List.getElem_cons_zero, List.getElem_cons_succ, List.setIfInBounds_toArray, List.set_cons_zero, List.set_cons_succ]
          refine wpAnyH_done (by kernel_rfl) ?_ _
          have Ha := hid (Ha.out.below (HCUR.out.mono Ha.out.le))
          have Hb := hid (Hb.out.below (HCUR.out.mono Hb.out.le))
          have HBl := hid (HBl.out.trans (HCUR.out.mono HBl.out.size))
          have HB := hid (HB.out.trans (HCUR.out.mono HB.out.size))
          go_wp2_with fail
          refine And.intro ?_ ?_
          · exact ⟨k + 1, by omega, by go_num, HBl.out⟩
          · simp [intOf]; omega
        · go_simp
          have HPB := hid (show ((wr.alloc (.cells #[.slice none 0 0, .slice none 0 0, .slice none 0 0] 30)).drew).heap[wr.heap.size]? = some (.cells #[.slice none 0 0, .slice none 0 0, .slice none 0 0] 30 (0, 0)) from heap_alloc_new _ _)
          have HZB := hid (show ((wr.alloc (.cells #[.slice none 0 0, .slice none 0 0, .slice none 0 0] 30)).drew).heap.size = wr.heap.size + 1 by simp)
          have HCUR := hid (show Below wr.heap.size wr ((wr.alloc (.cells #[.slice none 0 0, .slice none 0 0, .slice none 0 0] 30)).drew) from ((Below.refl _ _).alloc (Nat.le_refl _) _).drew)
          have HS := hid (HKP.out _ HCUR.out)
          refine hK.out _ _ HS.out (fun _ => ?_)
          clear hK K
          generalize (wr.alloc (.cells #[.slice none 0 0, .slice none 0 0, .slice none 0 0] 30)).drew = wb at *
          refine wpAnyH_ready (rs := [6]) (by kernel_rfl) (by simp) (AllReadyH.cons rfl (fun K hK => ?_) AllReadyH.nil)
          go_simp
          refine HJ.out _ _ _ _ _ _ _ _ _ _ _ (DfaIn.frame HAD.out (F' := fun q => q < w.heap.size + 2) (fun _ h => h) (fun q hq _ => HCUR.out.block q (Nat.lt_of_lt_of_le hq Ha.out.le))) (DfaIn.frame HBD.out (F' := fun q => q < w.heap.size + 2) (fun _ h => h) (fun q hq _ => HCUR.out.block q (Nat.lt_of_lt_of_le hq Hb.out.le))) (fun q hq => Nat.lt_of_lt_of_le (Nat.lt_of_lt_of_le hq Ha.out.le) HCUR.out.size) (fun q hq => Nat.lt_of_lt_of_le (Nat.lt_of_lt_of_le hq Hb.out.le) HCUR.out.size) (HT.out _ (HB.out.trans (HCUR.out.mono HB.out.size))) _ _ _ _ ?_
          intro v w3 hp
          rw [HX.out] at hp
          obtain ⟨x1, c1, x2, c2, x3, c3, he, hd, hb⟩ := hp.open'
          cases he
          dsimp only [outX] at hd ⊢
          have HD := hid hd
          have HPB' := hid hb
          have HCUR := hid (HCUR.out.trans (hb.mono HCUR.out.size))
          have HS := hid (HKP.out _ HCUR.out)
          refine hK.out _ _ HS.out (fun _ => ?_)
          clear hK K hb hd hp
          simp only [Act.put, List.getElem_toArray, List.getElem_cons_zero, List.getElem_cons_succ, List.setIfInBounds_toArray, List.set_cons_zero, List.set_cons_succ]
          refine wpAnyH_take (i := 7) (v := .tuple #[.agg #[.slice x1 Dfa.zero.cls.length c1, .slice x2 Dfa.zero.next.length c2, .slice x3 Dfa.zero.fin.length c3], .int .i64 2]) rfl (by kernel_rfl) (by kernel_rfl) (by kernel_rfl) (fun _ _ _ h => h) (Or.inl ⟨by rfl, fun w hS => by go_simp⟩) HS.out ?_
          simp only [Act.put, List.getElem_toArray, List.getElem_cons_zero, List.getElem_cons_succ, List.setIfInBounds_toArray, List.set_cons_zero, List.set_cons_succ]
          refine wpAnyH_take (i := 8) (v := .agg #[.slice x1 Dfa.zero.cls.length c1, .slice x2 Dfa.zero.next.length c2, .slice x3 Dfa.zero.fin.length c3]) rfl (by kernel_rfl) (by kernel_rfl) (by kernel_rfl) (fun _ _ _ h => h) (Or.inl ⟨by rfl, fun w hS => by go_simp⟩) HS.out ?_
          simp only [Act.put, List.getElem_toArray, List.getElem_cons_zero, List.getElem_cons_succ, List.setIfInBounds_toArray, List.set_cons_zero, List.set_cons_succ]
          refine wpAnyH_take (i := 9) (v := .int .i64 2) rfl (by kernel_rfl) (by kernel_rfl) (by kernel_rfl) (fun _ _ _ h => h) (Or.inl ⟨by rfl, fun w hS => by go_simp⟩) HS.out ?_
          simp only [Act.put, List.getElem_toArray, List.getElem_cons_zero, List.getElem_cons_succ, List.setIfInBounds_toArray, List.set_cons_zero, List.set_cons_succ]
          obtain ⟨P, hP⟩ : ∃ P, P = wr.heap.size := ⟨_, rfl⟩
          have HPB : Hid (w3.heap[P]? = some (.cells #[.slice none 0 0, .slice none 0 0, .slice none 0 0] 30 (0, 0))) := hid (by rw [hP]; exact (HPB'.out.block wr.heap.size (by rw [HZB.out]; omega)).trans HPB.out)
          have HPN := hid (fun (g : Nat) (h1 : wb.heap.size ≤ g) (_ : g < w3.heap.size) => (show g ≠ P by have := HZB.out; omega))
          have HPL := hid (show wr.heap.size ≤ P by rw [hP]; exact Nat.le_refl _)
          obtain ⟨w4, hw4⟩ : ∃ w4, w4 = w3 := ⟨_, rfl⟩
          have HPB : Hid (w4.heap[P]? = some (.cells #[.slice none 0 0, .slice none 0 0, .slice none 0 0] 30 (0, 0))) := hid (by rw [hw4]; exact HPB.out)
          have HPK := hid (fun (g : Nat) (_ : wb.heap.size ≤ g) (_ : g < w3.heap.size) => (show w4.heap[g]? = w3.heap[g]? by rw [hw4]))
          have HPZ := hid (show w3.heap.size ≤ w4.heap.size by rw [hw4]; exact Nat.le_refl _)
          have HCUR : Hid (Below wr.heap.size wr w4) := hid (by rw [hw4]; exact HCUR.out)
          have HS := hid (HKP.out _ HCUR.out)
          rw [← hP, ← hw4]
          clear hP hw4
          have d0 := cell_blk (i := 0) HPB.out rfl
          have d1 := cell_blk (i := 1) HPB.out rfl
          have d2 := cell_blk (i := 2) HPB.out rfl
          have d3 := free_box (i := 0) HPB.out
          have d4 := free_box (i := 1) HPB.out
          have d5 := free_box (i := 2) HPB.out
          refine wpAnyH_ready (rs := [11]) (by kernel_rfl) (by simp) (AllReadyH.cons rfl (fun K hK => ?_) AllReadyH.nil)
          go_simp
          have hpb := three_all (.slice x1 Dfa.zero.cls.length c1) (.slice x2 Dfa.zero.next.length c2) (.slice x3 Dfa.zero.fin.length c3) HPB.out
          have HCUR := hid (show Below wr.heap.size wr (((w4.setCell ⟨P, 0, none⟩ (.slice x1 Dfa.zero.cls.length c1)).setCell ⟨P, 1, none⟩ (.slice x2 Dfa.zero.next.length c2)).setCell ⟨P, 2, none⟩ (.slice x3 Dfa.zero.fin.length c3)) from ((HCUR.out.setCell HPL.out _).setCell HPL.out _).setCell HPL.out _)
          have HS := hid (HKP.out _ HCUR.out)
          refine hK.out _ _ HS.out (fun _ => ?_)
          clear hK K d0 d1 d2 d3 d4 d5
          have HBO := hid (ABox.born HD.out (W := (((w4.setCell ⟨P, 0, none⟩ (.slice x1 Dfa.zero.cls.length c1)).setCell ⟨P, 1, none⟩ (.slice x2 Dfa.zero.next.length c2)).setCell ⟨P, 2, none⟩ (.slice x3 Dfa.zero.fin.length c3))) (fun g h1 h2 => (heap_setCell_other _ _ _ _ (HPN.out g h1 h2)).trans ((heap_setCell_other _ _ _ _ (HPN.out g h1 h2)).trans ((heap_setCell_other _ _ _ _ (HPN.out g h1 h2)).trans (HPK.out g h1 h2)))) (by simpa using HPZ.out) hpb)
          clear hpb
          generalize (((w4.setCell ⟨P, 0, none⟩ (.slice x1 Dfa.zero.cls.length c1)).setCell ⟨P, 1, none⟩ (.slice x2 Dfa.zero.next.length c2)).setCell ⟨P, 2, none⟩ (.slice x3 Dfa.zero.fin.length c3)) = w5 at *
          refine wpAnyH_take (i := 12) (v := .int .i64 2) rfl (by kernel_rfl) (by kernel_rfl) (by kernel_rfl) (fun _ _ _ h => h) (Or.inl ⟨by rfl, fun w hS => by go_simp⟩) HS.out ?_
          simp only [Act.put, List.getElem_toArray, List.getElem_cons_zero, List.getElem_cons_succ, List.setIfInBounds_toArray, List.set_cons_zero, List.set_cons_succ]
          refine wpAnyH_done (by kernel_rfl) ?_ _
          have Ha := hid (Ha.out.below (HCUR.out.mono Ha.out.le))
          have Hb := hid (Hb.out.below (HCUR.out.mono Hb.out.le))
          have HBl := hid (HBl.out.trans (HCUR.out.mono HBl.out.size))
          have HB := hid (HB.out.trans (HCUR.out.mono HB.out.size))
          go_wp2_with fail
          refine And.intro ?_ ?_
          · exact ⟨k + 1, by omega, by go_num, HBl.out⟩
          · simp [intOf]; omega
      | ok d =>
        have HTK := hid (show takesM d t.data.toList = (fb, 0) by rw [(join_law hx).2, HTA.out, HTB.out, ← HFB.out])
        have HX := hid hx
        clear hx
        go_upto_region 12 with fail
        have HKP := hid (fun (W : World) (h : Below wr.heap.size wr W) => (show (fun W : World => W.cell? ⟨w.heap.size, 0, none⟩ = some (.slice ada a.cls.length cpa) ∧ W.cell? ⟨w.heap.size, 1, none⟩ = some (.slice adb a.next.length cpb) ∧ W.cell? ⟨w.heap.size, 2, none⟩ = some (.slice adc a.fin.length cpc) ∧ W.cell? ⟨w.heap.size + 1, 0, none⟩ = some (.slice ada' b.cls.length cpa') ∧ W.cell? ⟨w.heap.size + 1, 1, none⟩ = some (.slice adb' b.next.length cpb') ∧ W.cell? ⟨w.heap.size + 1, 2, none⟩ = some (.slice adc' b.fin.length cpc') ∧ W.cell? ⟨S1, k, none⟩ = some (.func (.func fv) #[] #[])) W from ⟨(h.cell (Nat.lt_of_lt_of_le Ha.out.lt Ha.out.le)).trans p00, (h.cell (Nat.lt_of_lt_of_le Ha.out.lt Ha.out.le)).trans p01, (h.cell (Nat.lt_of_lt_of_le Ha.out.lt Ha.out.le)).trans p02, (h.cell (Nat.lt_of_lt_of_le Hb.out.lt Hb.out.le)).trans p10, (h.cell (Nat.lt_of_lt_of_le Hb.out.lt Hb.out.le)).trans p11, (h.cell (Nat.lt_of_lt_of_le Hb.out.lt Hb.out.le)).trans p12, (h.cell hs1).trans s1⟩))
        have HCUR := hid ((Below.refl wr.heap.size wr).drew)
        have HS := hid (HKP.out _ HCUR.out)
        clear p00 p01 p02 p10 p11 p12 s1
        refine wp_region_held_drew (S := (fun W : World => W.cell? ⟨w.heap.size, 0, none⟩ = some (.slice ada a.cls.length cpa) ∧ W.cell? ⟨w.heap.size, 1, none⟩ = some (.slice adb a.next.length cpb) ∧ W.cell? ⟨w.heap.size, 2, none⟩ = some (.slice adc a.fin.length cpc) ∧ W.cell? ⟨w.heap.size + 1, 0, none⟩ = some (.slice ada' b.cls.length cpa') ∧ W.cell? ⟨w.heap.size + 1, 1, none⟩ = some (.slice adb' b.next.length cpb') ∧ W.cell? ⟨w.heap.size + 1, 2, none⟩ = some (.slice adc' b.fin.length cpc') ∧ W.cell? ⟨S1, k, none⟩ = some (.func (.func fv) #[] #[]))) (by kernel_rfl) HS.out (fun _ => ?_)
        refine wpAnyH_take (i := 0) (v := .slice (some ⟨S1, 0, none⟩) 4 4) rfl (by kernel_rfl) (by kernel_rfl) (by kernel_rfl) (fun _ _ _ h => h) (Or.inl ⟨by rfl, fun w hS => by go_simp⟩) HS.out ?_
        simp only [Act.put, List.getElem_toArray, List.getElem_cons_zero, List.getElem_cons_succ, List.setIfInBounds_toArray, List.set_cons_zero, List.set_cons_succ]
        refine wpAnyH_take (i := 1) (v := .int .i64 k) rfl (by kernel_rfl) (by kernel_rfl) (by kernel_rfl) (fun _ _ _ h => h) (Or.inl ⟨by rfl, fun w hS => by go_simp⟩) HS.out ?_
        simp only [Act.put, List.getElem_toArray, List.getElem_cons_zero, List.getElem_cons_succ, List.setIfInBounds_toArray, List.set_cons_zero, List.set_cons_succ]
        refine wpAnyH_take (i := 2) (v := .pointer (some ⟨S1, k, none⟩)) rfl (by kernel_rfl) (by kernel_rfl) (by kernel_rfl) (fun _ _ _ h => h) (Or.inl ⟨by rfl, fun w hS => by go_simp⟩) HS.out ?_
        simp only [Act.put, List.getElem_toArray, List.getElem_cons_zero, List.getElem_cons_succ, List.setIfInBounds_toArray, List.set_cons_zero, List.set_cons_succ]
        refine wpAnyH_take (i := 3) (v := .func (.func fv) #[] #[]) rfl (by kernel_rfl) (by kernel_rfl) (by kernel_rfl) (fun _ _ _ h => h) (Or.inl ⟨by rfl, fun w hS => by have k6 := hS.2.2.2.2.2.2; go_simp⟩) HS.out ?_
        simp only [Act.put, List.getElem_toArray, List.getElem_cons_zero, List.getElem_cons_succ, List.setIfInBounds_toArray, List.set_cons_zero, List.set_cons_succ]
        refine wpAnyH_take (i := 4) (v := .agg #[.slice ada a.cls.length cpa, .slice adb a.next.length cpb, .slice adc a.fin.length cpc]) rfl (by kernel_rfl) (by kernel_rfl) (by kernel_rfl) (fun _ _ _ h => h) (Or.inl ⟨by rfl, fun w hS => by have k0 := hS.1; have k1 := hS.2.1; have k2 := hS.2.2.1; go_simp⟩) HS.out ?_
        simp only [Act.put, List.getElem_toArray, List.getElem_cons_zero, List.getElem_cons_succ, List.setIfInBounds_toArray, List.set_cons_zero, List.set_cons_succ]
        refine wpAnyH_take (i := 5) (v := .agg #[.slice ada' b.cls.length cpa', .slice adb' b.next.length cpb', .slice adc' b.fin.length cpc']) rfl (by kernel_rfl) (by kernel_rfl) (by kernel_rfl) (fun _ _ _ h => h) (Or.inl ⟨by rfl, fun w hS => by have k3 := hS.2.2.2.1; have k4 := hS.2.2.2.2.1; have k5 := hS.2.2.2.2.2.1; go_simp⟩) HS.out ?_
        simp only [Act.put, List.getElem_toArray, List.getElem_cons_zero, List.getElem_cons_succ, List.setIfInBounds_toArray, List.set_cons_zero, List.set_cons_succ]
        refine wpAnyH_ready (rs := [6, 10]) (by kernel_rfl) (by simp) (AllReadyH.cons rfl (fun K hK => ?_) (AllReadyH.cons rfl (fun K hK => ?_) AllReadyH.nil))
        · go_simp
          refine HJ.out _ _ _ _ _ _ _ _ _ _ _ (DfaIn.frame HAD.out (F' := fun q => q < w.heap.size + 2) (fun _ h => h) (fun q hq _ => HCUR.out.block q (Nat.lt_of_lt_of_le hq Ha.out.le))) (DfaIn.frame HBD.out (F' := fun q => q < w.heap.size + 2) (fun _ h => h) (fun q hq _ => HCUR.out.block q (Nat.lt_of_lt_of_le hq Hb.out.le))) (fun q hq => Nat.lt_of_lt_of_le (Nat.lt_of_lt_of_le hq Ha.out.le) HCUR.out.size) (fun q hq => Nat.lt_of_lt_of_le (Nat.lt_of_lt_of_le hq Hb.out.le) HCUR.out.size) (HT.out _ (HB.out.trans (HCUR.out.mono HB.out.size))) _ _ _ _ ?_
          intro v w3 hp
          rw [HX.out] at hp
          obtain ⟨x1, c1, x2, c2, x3, c3, he, hd, hb⟩ := hp.open'
          cases he
          dsimp only [outX] at hd ⊢
          have HD := hid hd
          have HPB' := hid hb
          have HCUR := hid (HCUR.out.trans (hb.mono HCUR.out.size))
          have HS := hid (HKP.out _ HCUR.out)
          refine hK.out _ _ HS.out (fun _ => ?_)
          clear hK K hb hd hp
          simp only [Act.put, List.getElem_toArray, List.getElem_cons_zero, List.getElem_cons_succ, List.setIfInBounds_toArray, List.set_cons_zero, List.set_cons_succ]
          refine wpAnyH_take (i := 7) (v := .tuple #[.agg #[.slice x1 d.cls.length c1, .slice x2 d.next.length c2, .slice x3 d.fin.length c3], .int .i64 0]) rfl (by kernel_rfl) (by kernel_rfl) (by kernel_rfl) (fun _ _ _ h => h) (Or.inl ⟨by rfl, fun w hS => by go_simp⟩) HS.out ?_
          simp only [Act.put, List.getElem_toArray, List.getElem_cons_zero, List.getElem_cons_succ, List.setIfInBounds_toArray, List.set_cons_zero, List.set_cons_succ]
          refine wpAnyH_take (i := 8) (v := .agg #[.slice x1 d.cls.length c1, .slice x2 d.next.length c2, .slice x3 d.fin.length c3]) rfl (by kernel_rfl) (by kernel_rfl) (by kernel_rfl) (fun _ _ _ h => h) (Or.inl ⟨by rfl, fun w hS => by go_simp⟩) HS.out ?_
          simp only [Act.put, List.getElem_toArray, List.getElem_cons_zero, List.getElem_cons_succ, List.setIfInBounds_toArray, List.set_cons_zero, List.set_cons_succ]
          refine wpAnyH_take (i := 9) (v := .int .i64 0) rfl (by kernel_rfl) (by kernel_rfl) (by kernel_rfl) (fun _ _ _ h => h) (Or.inl ⟨by rfl, fun w hS => by go_simp⟩) HS.out ?_
          simp only [Act.put, List.getElem_toArray, List.getElem_cons_zero, List.getElem_cons_succ, List.setIfInBounds_toArray, List.set_cons_zero, List.set_cons_succ]
          refine wpAnyH_ready (rs := [10]) (by kernel_rfl) (by simp) (AllReadyH.cons rfl (fun K hK => ?_) AllReadyH.nil)
          go_simp
          have hzr : wr.heap.size ≤ w3.heap.size := HCUR.out.size
          have HPB := hid (show (w3.alloc (.cells #[.slice none 0 0, .slice none 0 0, .slice none 0 0] 30)).heap[w3.heap.size]? = some (.cells #[.slice none 0 0, .slice none 0 0, .slice none 0 0] 30 (0, 0)) from heap_alloc_new _ _)
          have HPK := hid (fun (g : Nat) (_ : wr.heap.size ≤ g) (h2 : g < w3.heap.size) => (show (w3.alloc (.cells #[.slice none 0 0, .slice none 0 0, .slice none 0 0] 30)).heap[g]? = w3.heap[g]? from alloc_old h2))
          have HPZ := hid (show w3.heap.size ≤ (w3.alloc (.cells #[.slice none 0 0, .slice none 0 0, .slice none 0 0] 30)).heap.size by simp)
          have HCUR := hid (show Below wr.heap.size wr (w3.alloc (.cells #[.slice none 0 0, .slice none 0 0, .slice none 0 0] 30)) from HCUR.out.alloc hzr _)
          have HS := hid (HKP.out _ HCUR.out)
          refine hK.out _ _ HS.out (fun _ => ?_)
          clear hK K
          obtain ⟨P, hP⟩ : ∃ P, P = w3.heap.size := ⟨_, rfl⟩
          have HPN := hid (fun (g : Nat) (_ : wr.heap.size ≤ g) (h2 : g < w3.heap.size) => (show g ≠ P by rw [hP]; exact Nat.ne_of_lt h2))
          have HPL := hid (show wr.heap.size ≤ P by rw [hP]; exact hzr)
          generalize w3.alloc (.cells #[.slice none 0 0, .slice none 0 0, .slice none 0 0] 30) = w4 at *
          have HPB : Hid (w4.heap[P]? = some (.cells #[.slice none 0 0, .slice none 0 0, .slice none 0 0] 30 (0, 0))) := hid (by rw [hP]; exact HPB.out)
          rw [← hP]
          clear hP hzr
          have d0 := cell_blk (i := 0) HPB.out rfl
          have d1 := cell_blk (i := 1) HPB.out rfl
          have d2 := cell_blk (i := 2) HPB.out rfl
          have d3 := free_box (i := 0) HPB.out
          have d4 := free_box (i := 1) HPB.out
          have d5 := free_box (i := 2) HPB.out
          refine wpAnyH_ready (rs := [11]) (by kernel_rfl) (by simp) (AllReadyH.cons rfl (fun K hK => ?_) AllReadyH.nil)
          go_simp
          have hpb := three_all (.slice x1 d.cls.length c1) (.slice x2 d.next.length c2) (.slice x3 d.fin.length c3) HPB.out
          have HCUR := hid (show Below wr.heap.size wr (((w4.setCell ⟨P, 0, none⟩ (.slice x1 d.cls.length c1)).setCell ⟨P, 1, none⟩ (.slice x2 d.next.length c2)).setCell ⟨P, 2, none⟩ (.slice x3 d.fin.length c3)) from ((HCUR.out.setCell HPL.out _).setCell HPL.out _).setCell HPL.out _)
          have HS := hid (HKP.out _ HCUR.out)
          refine hK.out _ _ HS.out (fun _ => ?_)
          clear hK K d0 d1 d2 d3 d4 d5
          have HBO := hid (ABox.born HD.out (W := (((w4.setCell ⟨P, 0, none⟩ (.slice x1 d.cls.length c1)).setCell ⟨P, 1, none⟩ (.slice x2 d.next.length c2)).setCell ⟨P, 2, none⟩ (.slice x3 d.fin.length c3))) (fun g h1 h2 => (heap_setCell_other _ _ _ _ (HPN.out g h1 h2)).trans ((heap_setCell_other _ _ _ _ (HPN.out g h1 h2)).trans ((heap_setCell_other _ _ _ _ (HPN.out g h1 h2)).trans (HPK.out g h1 h2)))) (by simpa using HPZ.out) hpb)
          clear hpb
          generalize (((w4.setCell ⟨P, 0, none⟩ (.slice x1 d.cls.length c1)).setCell ⟨P, 1, none⟩ (.slice x2 d.next.length c2)).setCell ⟨P, 2, none⟩ (.slice x3 d.fin.length c3)) = w5 at *
          refine wpAnyH_take (i := 12) (v := .int .i64 0) rfl (by kernel_rfl) (by kernel_rfl) (by kernel_rfl) (fun _ _ _ h => h) (Or.inl ⟨by rfl, fun w hS => by go_simp⟩) HS.out ?_
          simp only [Act.put, List.getElem_toArray, List.getElem_cons_zero, List.getElem_cons_succ, List.setIfInBounds_toArray, List.set_cons_zero, List.set_cons_succ]
          refine wpAnyH_done (by kernel_rfl) ?_ _
          have Ha := hid (Ha.out.below (HCUR.out.mono Ha.out.le))
          have Hb := hid (Hb.out.below (HCUR.out.mono Hb.out.le))
          have HBl := hid (HBl.out.trans (HCUR.out.mono HBl.out.size))
          have HB := hid (HB.out.trans (HCUR.out.mono HB.out.size))
          obtain ⟨q0, q1, q2⟩ := HBO.out.cells
          have hc := takes_any HBO.out.dfa HBO.out.fits t h1000
          rw [HTK.out] at hc
          go_wp2_with fail
          refine hc.mono ?_
          clear hc q0 q1 q2
          rintro e w6 ⟨rfl, hb6⟩
          have HBl := hid (HBl.out.trans (hb6.mono HBl.out.size))
          clear hb6
          have s2 := S2K.out w6 HBl.out
          clear HFB HTK
          cases fb
          all_goals go_wp2_with fail
          all_goals refine And.intro ?_ ?_
          all_goals first
            | exact ⟨k + 1, by omega, by go_num, HBl.out⟩
            | (simp [intOf]; omega)
        · go_simp
          have HPB := hid (show ((wr.alloc (.cells #[.slice none 0 0, .slice none 0 0, .slice none 0 0] 30)).drew).heap[wr.heap.size]? = some (.cells #[.slice none 0 0, .slice none 0 0, .slice none 0 0] 30 (0, 0)) from heap_alloc_new _ _)
          have HZB := hid (show ((wr.alloc (.cells #[.slice none 0 0, .slice none 0 0, .slice none 0 0] 30)).drew).heap.size = wr.heap.size + 1 by simp)
          have HCUR := hid (show Below wr.heap.size wr ((wr.alloc (.cells #[.slice none 0 0, .slice none 0 0, .slice none 0 0] 30)).drew) from ((Below.refl _ _).alloc (Nat.le_refl _) _).drew)
          have HS := hid (HKP.out _ HCUR.out)
          refine hK.out _ _ HS.out (fun _ => ?_)
          clear hK K
          generalize (wr.alloc (.cells #[.slice none 0 0, .slice none 0 0, .slice none 0 0] 30)).drew = wb at *
          refine wpAnyH_ready (rs := [6]) (by kernel_rfl) (by simp) (AllReadyH.cons rfl (fun K hK => ?_) AllReadyH.nil)
          go_simp
          refine HJ.out _ _ _ _ _ _ _ _ _ _ _ (DfaIn.frame HAD.out (F' := fun q => q < w.heap.size + 2) (fun _ h => h) (fun q hq _ => HCUR.out.block q (Nat.lt_of_lt_of_le hq Ha.out.le))) (DfaIn.frame HBD.out (F' := fun q => q < w.heap.size + 2) (fun _ h => h) (fun q hq _ => HCUR.out.block q (Nat.lt_of_lt_of_le hq Hb.out.le))) (fun q hq => Nat.lt_of_lt_of_le (Nat.lt_of_lt_of_le hq Ha.out.le) HCUR.out.size) (fun q hq => Nat.lt_of_lt_of_le (Nat.lt_of_lt_of_le hq Hb.out.le) HCUR.out.size) (HT.out _ (HB.out.trans (HCUR.out.mono HB.out.size))) _ _ _ _ ?_
          intro v w3 hp
          rw [HX.out] at hp
          obtain ⟨x1, c1, x2, c2, x3, c3, he, hd, hb⟩ := hp.open'
          cases he
          dsimp only [outX] at hd ⊢
          have HD := hid hd
          have HPB' := hid hb
          have HCUR := hid (HCUR.out.trans (hb.mono HCUR.out.size))
          have HS := hid (HKP.out _ HCUR.out)
          refine hK.out _ _ HS.out (fun _ => ?_)
          clear hK K hb hd hp
          simp only [Act.put, List.getElem_toArray, List.getElem_cons_zero, List.getElem_cons_succ, List.setIfInBounds_toArray, List.set_cons_zero, List.set_cons_succ]
          refine wpAnyH_take (i := 7) (v := .tuple #[.agg #[.slice x1 d.cls.length c1, .slice x2 d.next.length c2, .slice x3 d.fin.length c3], .int .i64 0]) rfl (by kernel_rfl) (by kernel_rfl) (by kernel_rfl) (fun _ _ _ h => h) (Or.inl ⟨by rfl, fun w hS => by go_simp⟩) HS.out ?_
          simp only [Act.put, List.getElem_toArray, List.getElem_cons_zero, List.getElem_cons_succ, List.setIfInBounds_toArray, List.set_cons_zero, List.set_cons_succ]
          refine wpAnyH_take (i := 8) (v := .agg #[.slice x1 d.cls.length c1, .slice x2 d.next.length c2, .slice x3 d.fin.length c3]) rfl (by kernel_rfl) (by kernel_rfl) (by kernel_rfl) (fun _ _ _ h => h) (Or.inl ⟨by rfl, fun w hS => by go_simp⟩) HS.out ?_
          simp only [Act.put, List.getElem_toArray, List.getElem_cons_zero, List.getElem_cons_succ, List.setIfInBounds_toArray, List.set_cons_zero, List.set_cons_succ]
          refine wpAnyH_take (i := 9) (v := .int .i64 0) rfl (by kernel_rfl) (by kernel_rfl) (by kernel_rfl) (fun _ _ _ h => h) (Or.inl ⟨by rfl, fun w hS => by go_simp⟩) HS.out ?_
          simp only [Act.put, List.getElem_toArray, List.getElem_cons_zero, List.getElem_cons_succ, List.setIfInBounds_toArray, List.set_cons_zero, List.set_cons_succ]
          obtain ⟨P, hP⟩ : ∃ P, P = wr.heap.size := ⟨_, rfl⟩
          have HPB : Hid (w3.heap[P]? = some (.cells #[.slice none 0 0, .slice none 0 0, .slice none 0 0] 30 (0, 0))) := hid (by rw [hP]; exact (HPB'.out.block wr.heap.size (by rw [HZB.out]; omega)).trans HPB.out)
          have HPN := hid (fun (g : Nat) (h1 : wb.heap.size ≤ g) (_ : g < w3.heap.size) => (show g ≠ P by have := HZB.out; omega))
          have HPL := hid (show wr.heap.size ≤ P by rw [hP]; exact Nat.le_refl _)
          obtain ⟨w4, hw4⟩ : ∃ w4, w4 = w3 := ⟨_, rfl⟩
          have HPB : Hid (w4.heap[P]? = some (.cells #[.slice none 0 0, .slice none 0 0, .slice none 0 0] 30 (0, 0))) := hid (by rw [hw4]; exact HPB.out)
          have HPK := hid (fun (g : Nat) (_ : wb.heap.size ≤ g) (_ : g < w3.heap.size) => (show w4.heap[g]? = w3.heap[g]? by rw [hw4]))
          have HPZ := hid (show w3.heap.size ≤ w4.heap.size by rw [hw4]; exact Nat.le_refl _)
          have HCUR : Hid (Below wr.heap.size wr w4) := hid (by rw [hw4]; exact HCUR.out)
          have HS := hid (HKP.out _ HCUR.out)
          rw [← hP, ← hw4]
          clear hP hw4
          have d0 := cell_blk (i := 0) HPB.out rfl
          have d1 := cell_blk (i := 1) HPB.out rfl
          have d2 := cell_blk (i := 2) HPB.out rfl
          have d3 := free_box (i := 0) HPB.out
          have d4 := free_box (i := 1) HPB.out
          have d5 := free_box (i := 2) HPB.out
          refine wpAnyH_ready (rs := [11]) (by kernel_rfl) (by simp) (AllReadyH.cons rfl (fun K hK => ?_) AllReadyH.nil)
          go_simp
          have hpb := three_all (.slice x1 d.cls.length c1) (.slice x2 d.next.length c2) (.slice x3 d.fin.length c3) HPB.out
          have HCUR := hid (show Below wr.heap.size wr (((w4.setCell ⟨P, 0, none⟩ (.slice x1 d.cls.length c1)).setCell ⟨P, 1, none⟩ (.slice x2 d.next.length c2)).setCell ⟨P, 2, none⟩ (.slice x3 d.fin.length c3)) from ((HCUR.out.setCell HPL.out _).setCell HPL.out _).setCell HPL.out _)
          have HS := hid (HKP.out _ HCUR.out)
          refine hK.out _ _ HS.out (fun _ => ?_)
          clear hK K d0 d1 d2 d3 d4 d5
          have HBO := hid (ABox.born HD.out (W := (((w4.setCell ⟨P, 0, none⟩ (.slice x1 d.cls.length c1)).setCell ⟨P, 1, none⟩ (.slice x2 d.next.length c2)).setCell ⟨P, 2, none⟩ (.slice x3 d.fin.length c3))) (fun g h1 h2 => (heap_setCell_other _ _ _ _ (HPN.out g h1 h2)).trans ((heap_setCell_other _ _ _ _ (HPN.out g h1 h2)).trans ((heap_setCell_other _ _ _ _ (HPN.out g h1 h2)).trans (HPK.out g h1 h2)))) (by simpa using HPZ.out) hpb)
          clear hpb
          generalize (((w4.setCell ⟨P, 0, none⟩ (.slice x1 d.cls.length c1)).setCell ⟨P, 1, none⟩ (.slice x2 d.next.length c2)).setCell ⟨P, 2, none⟩ (.slice x3 d.fin.length c3)) = w5 at *
          refine wpAnyH_take (i := 12) (v := .int .i64 0) rfl (by kernel_rfl) (by kernel_rfl) (by kernel_rfl) (fun _ _ _ h => h) (Or.inl ⟨by rfl, fun w hS => by go_simp⟩) HS.out ?_
          simp only [Act.put, List.getElem_toArray, List.getElem_cons_zero, List.getElem_cons_succ, List.setIfInBounds_toArray, List.set_cons_zero, List.set_cons_succ]
          refine wpAnyH_done (by kernel_rfl) ?_ _
          have Ha := hid (Ha.out.below (HCUR.out.mono Ha.out.le))
          have Hb := hid (Hb.out.below (HCUR.out.mono Hb.out.le))
          have HBl := hid (HBl.out.trans (HCUR.out.mono HBl.out.size))
          have HB := hid (HB.out.trans (HCUR.out.mono HB.out.size))
          obtain ⟨q0, q1, q2⟩ := HBO.out.cells
          have hc := takes_any HBO.out.dfa HBO.out.fits t h1000
          rw [HTK.out] at hc
          go_wp2_with fail
          refine hc.mono ?_
          clear hc q0 q1 q2
          rintro e w6 ⟨rfl, hb6⟩
          have HBl := hid (HBl.out.trans (hb6.mono HBl.out.size))
          clear hb6
          have s2 := S2K.out w6 HBl.out
          clear HFB HTK
          cases fb
          all_goals go_wp2_with fail
          all_goals refine And.intro ?_ ?_
          all_goals first
            | exact ⟨k + 1, by omega, by go_num, HBl.out⟩
            | (simp [intOf]; omega)
    · have hk4 : ¬ ((k : Int) < 4) := by omega
      clear hlt hk
      obtain ⟨dk, hdk⟩ := not_some HOA.out
      have htk := (not_law hdk).2.2.2.2.2
      have HNK := hid hdk
      have HTK := hid (show takesM dk t.data.toList = (!true, 0) by rw [htk, HTA.out])
      clear hdk htk
      go_upto_region 17 with fail
      obtain ⟨p00, p01, p02⟩ := Ha.out.cells
      have hc := bnot_any Ha.out.dfa Ha.out.fits
      rw [HNK.out] at hc
      go_wp2_with fail
      refine hc.mono ?_
      clear hc p00 p01 p02
      rintro e w21 hp
      obtain ⟨x1, c1, x2, c2, x3, c3, rfl, hd, hb⟩ := hp.open'
      rw [show outX (Except.ok dk) = (dk, 0) from rfl] at hd ⊢
      dsimp only at hd ⊢
      have HD := hid hd
      have Ha := hid (Ha.out.below (hb.mono Ha.out.le))
      have HB := hid (HB.out.trans (hb.mono HB.out.size))
      clear hd hb hp
      go_upto_region 18 with fail
      have hA := ABox.new HD.out
      generalize hW : w21.alloc (.cells #[.slice x1 dk.cls.length c1, .slice x2 dk.next.length c2, .slice x3 dk.fin.length c3] 30) = v21 at *
      have hb : Below w21.heap.size w21 v21 := by rw [← hW]; exact (Below.refl _ _).alloc (Nat.le_refl _) _
      have Hk := hid hA
      have Ha := hid (Ha.out.below (hb.mono Ha.out.le))
      have HB := hid (HB.out.trans (hb.mono HB.out.size))
      clear hW HD hA hb
      obtain ⟨p00, p01, p02⟩ := Hk.out.cells
      have hc := takes_any Hk.out.dfa Hk.out.fits t h1000
      rw [HTK.out] at hc
      go_wp2_with fail
      refine hc.mono ?_
      clear hc p00 p01 p02
      rintro e w22 ⟨rfl, hb⟩
      have Ha := hid (Ha.out.below (hb.mono Ha.out.le))
      have Hk := hid (Hk.out.below (hb.mono Hk.out.le))
      have HB := hid (HB.out.trans (hb.mono HB.out.size))
      clear hb
      have haw := awake12_any _ (HT.out _ HB.out)
      go_wp2_with fail
      refine haw.mono ?_
      clear haw
      rintro e w23 ⟨rfl, hb⟩
      have HB := hid (HB.out.trans (hb.mono HB.out.size))
      clear hb
      go_wp2_with fail
      go_ret
      exact ⟨rfl, HB.out⟩
/-- the walk of BoolsTake -/
theorem take_go {F G : Nat → Prop} {w : World} {a1 a2 a3 b1 b2 b3 : Value} {a b : Dfa} (ha : DfaIn F w a1 a2 a3 a) (hF : ∀ g, F g → g < w.heap.size) (hb : DfaIn G w b1 b2 b3 b) (hG : ∀ g, G g → g < w.heap.size) (t : ByteArray) (ht : t.size ≤ 140737488351232) (hT : Tab w) :
    Calls Tryd.prog 9 #[.agg #[a1, a2, a3], .agg #[b1, b2, b3], .string t] w (AwPost w) := by
  by_cases h : dfaOk a = true ∧ dfaOk b = true
  · obtain ⟨h1, h2⟩ := h
    obtain ⟨A, hA⟩ : ∃ A, takesM a t.data.toList = (A, 0) := ⟨_, takes_good h1⟩
    obtain ⟨B, hB⟩ : ∃ B, takesM b t.data.toList = (B, 0) := ⟨_, takes_good h2⟩
    cases A <;> cases B
    · exact take_ff ha hb hF hG t ht hT h1 h2 hA hB
    · exact take_ft ha hb hF hG t ht hT h1 h2 hA hB
    · exact take_tf ha hb hF hG t ht hT h1 h2 hA hB
    · exact take_tt ha hb hF hG t ht hT h1 h2 hA hB
  · exact take_bad ha hb hF hG t ht hT h
end Go.Proofs.YtfjomnhdmkbkiaaDoor.Im
