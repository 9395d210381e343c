/-
  The contract of the reader's method image.
-/
import Derived.Test.YtdokeelodcckoaaImgRa
import Derived.Test.YtdokeelodcckoaaImgRb
import Derived.Deep.CutBlock
import Derived.Test.YtdokeelodcckoaaImgU
namespace Go.Proofs.Ytdokeelodcckoaa.Im
open Go.RowKit Go.Lib

theorem infoRule : (Try.prog.info? 52).map (fun i => (i.zero, i.size, i.bytes)) = some (some (.agg #[.slice none 0 0, .slice none 0 0, .slice none 0 0, .slice none 0 0, .slice none 0 0, .slice none 0 0, .slice none 0 0, .slice none 0 0, .slice none 0 0, .string ⟨#[]⟩, .bool false, .string ⟨#[]⟩, .slice none 0 0, .slice none 0 0, .slice none 0 0, .slice none 0 0]), 16, 352) := by kernel_rfl
theorem infoCls : (Try.prog.info? 58).map (fun i => (i.zero, i.size, i.bytes)) = some (some (.agg #[.string ⟨#[]⟩, .slice none 0 0, .slice none 0 0, .slice none 0 0]), 4, 88) := by kernel_rfl
theorem ruleC_one (r : Rule) (x1 : Option Addr) (p1 : Nat) (y1 : Option Addr) (q1 : Nat) (z1 : Option Addr) (s1 : Nat) (x2 : Option Addr) (p2 : Nat) (y2 : Option Addr) (q2 : Nat) (z2 : Option Addr) (s2 : Nat) (x3 : Option Addr) (p3 : Nat) (y3 : Option Addr) (q3 : Nat) (z3 : Option Addr) (s3 : Nat) (x4 : Option Addr) (p4 : Nat) (y4 : Option Addr) (q4 : Nat) (z4 : Option Addr) (s4 : Nat) (v4 : Option Addr) (t4 : Nat) :
    ∀ u ∈ ruleC r x1 p1 y1 q1 z1 s1 x2 p2 y2 q2 z2 s2 x3 p3 y3 q3 z3 s3 x4 p4 y4 q4 z4 s4 v4 t4, u.oneCell' = true := by
  unfold ruleC
  simp only [List.forall_mem_cons]
  exact ⟨rfl, rfl, rfl, rfl, rfl, rfl, rfl, rfl, rfl, rfl, rfl, rfl, rfl, rfl, rfl, rfl, fun u hu => by cases hu⟩
theorem far_rowk {w1 w2 : World} {o : Obj} {base e s n q : Nat} {v : Value} {xs : List Value} (hO : w1.ownsRow base e s v n xs) (hg : (w1.alloc o).grownBy w2 v.ownBlock) (hq : q < w1.heap.size) (hb : q < base) : w2.heap[q]? = w1.heap[q]? :=
  (hg.block q (Nat.lt_succ_of_lt hq |> fun h => by rw [World.size_alloc]; exact h) (fun e => by have := (own_lt hO e.symm).1; omega)).trans (alloc_old hq)
theorem rules_step (n : Nat) {r : Rd} (hb : r.bad = false) : rules (n + 1) r = ((rule r).1 :: (rules n (rule r).2).1, (rules n (rule r).2).2) := by
  simp only [rules, hb]
  simp
theorem rules_bad (n : Nat) {r : Rd} (hb : r.bad = true) : rules n r = ([], r) := by
  cases n with
  | zero => rfl
  | succ n => simp [rules, hb]
theorem classes_step (n : Nat) {r : Rd} (hb : r.bad = false) : classes (n + 1) r = ((cls r).1 :: (classes n (cls r).2).1, (classes n (cls r).2).2) := by
  simp only [classes, hb]
  simp
theorem classes_bad (n : Nat) {r : Rd} (hb : r.bad = true) : classes n r = ([], r) := by
  cases n with
  | zero => rfl
  | succ n => simp [classes, hb]
/-- one struct more in the row, behind a call that laid its parts -/
theorem Agg.snoc2 {α : Type} {T k : Nat} {R : (Nat → Prop) → World → List Value → α → Prop} {w0 w w' : World} {base g cap : Nat} {v : Value} {l : List α} {vs : List (List Value)} {cs : List Value} {x : α} (hR : Framed R) (e1 : vs.length = l.length) (e2 : ∀ cs ∈ vs, cs.length = k) (e3 : w0.ownsRow base T k v l.length vs.flatten)
    (e4 : ∀ (i : Nat) (cs : List Value) (x : α), vs[i]? = some cs → l[i]? = some x → R (fun g => base ≤ g ∧ g < w0.heap.size ∧ v.ownBlock ≠ some g) w0 cs x)
    (hs : w0.heap.size ≤ w.heap.size) (hk : ∀ g, base ≤ g → g < w0.heap.size → w.heap[g]? = w0.heap[g]?)
    (hx : R (fun g => w0.heap.size ≤ g) w cs x) (hlt : R (fun g => w0.heap.size ≤ g) w cs x → R (fun g => w0.heap.size ≤ g ∧ g < w.heap.size) w cs x) (hl : cs.length = k) (hb : base ≤ w0.heap.size)
    (hown : w'.ownsRow base T k (.slice (some ⟨g, 0, none⟩) (l.length + 1) cap) (l.length + 1) (vs.flatten ++ cs)) (hg : w.grownBy w' v.ownBlock) (hat : v.ownBlock = some g ∨ g = w.heap.size) :
    Agg T k R w' base (.slice (some ⟨g, 0, none⟩) (l.length + 1) cap) (l ++ [x]) :=
  Agg.snoc hR e1 e2 (own_blk e3 fun q hq => hk q (own_lt e3 hq).1 (own_lt e3 hq).2) (fun i cs x h1 h2 => hR _ _ _ _ _ _ (e4 i cs x h1 h2) (fun q hq => ⟨hq.1, Nat.lt_of_lt_of_le hq.2.1 hs, hq.2.2⟩) (fun q hq hl => hk q hq.1 hl))
    hx hlt hl hb (fun q hq => (own_lt e3 hq).2) hown hg hat
theorem wpList_append_lies {P : Program} {ops : Array Oper} {rest : List Oper} {o : Oper} {a : Act} {w : World} {Q : Exit → Act → World → Prop} (hgd : o.guard = none) (s x : Operand) (t : TypeId)
    (ho : o.op = .call { callee := .builtin .append, args := #[s, x], argTypes := #[t, t] })
    (base : Nat) (e : TypeId) (i : TypeInfo) (z : Value) (size bytes : Nat) (ht : P.underlying t = some (.slice e)) (hi : P.info? e = some i) (hz : i.zero = some z)
    (hsize : i.size = size) (hby : i.bytes = bytes) (hzs : z.cells.size = size) (hsz : 0 < size)
    (v : Value) (n : Nat) (xs : List Value) (hs : a.eval s = v) (hown : w.ownsRow base e size v n xs)
    (ad : Addr) (m c : Nat) (news : List Value) (hx : a.eval x = .slice (some ad) m c) (hl : news.length = m * size) (hnews : ∀ j u, news[j]? = some u → w.cell? (ad.add j) = some u) (h1 : ∀ u ∈ news, u.oneCell' = true)
    (hm : 0 < m) (h63 : n + m ≤ maxLen) (hbytes : (n + m) * bytes ≤ 140737488355328) (hbase : base ≤ w.heap.size)
    (h : ∀ g cap w', w'.ownsRow base e size (.slice (some ⟨g, 0, none⟩) (n + m) cap) (n + m) (xs ++ news) → w.grownBy w' v.ownBlock → (v.ownBlock = some g ∨ g = w.heap.size) → g < w'.heap.size → wpList P ops Q rest (a.put o.dst (.slice (some ⟨g, 0, none⟩) (n + m) cap)) w') :
    wpList P ops Q (o :: rest) a w :=
  wpList_plain hgd fun _ hK => wp_append_lies w s x t ho base e i z size bytes ht hi hz hsize hby hzs hsz v n xs hs hown ad m c news hx hl hnews h1 hm h63 hbytes hbase w.heap.size rfl fun g cap w' a1 a2 a3 a4 => hK _ _ (h g cap w' a1 a2 a3 a4)
theorem two_end {w : World} {D : Nat} {a b a0 b0 : Value} {T : TypeId} (h : w.heap[D]? = some (.cells #[a0, b0] T (0, 0))) : ((w.setCell ⟨D, 0, none⟩ a).setCell ⟨D, 1, none⟩ b).heap[D]? = some (.cells #[a, b] T (0, 0)) := two_set1 _ (two_set0 _ h)
def ImgPost (F : Nat → Prop) (R : Nat) (w : World) (x : Img × Rd) (e : Ending) (w' : World) : Prop :=
  ∃ a b, e = .returned (.agg #[a, b]) ∧ ImgIn (fun g => w.heap.size ≤ g) w' a b x.1 ∧ RdAt F R w' x.2 ∧ Kp R w w'

set_option maxRecDepth 100000 in
set_option maxHeartbeats 2000000 in
theorem image_any {F : Nat → Prop} {R : Nat} {w : World} {r : Rd} (h : RdAt F R w r) (hF : ∀ g, F g → g ≠ R ∧ g < w.heap.size) :
    Calls Try.prog 30 #[.pointer (some ⟨R, 0, none⟩)] w (ImgPost F R w (img r)) := by
  have hlt := h.lt
  have HR := hid h
  have HF := hid hF
  have HFn := hid (fun g hg => (hF g hg).1)
  have HFb := hid (fun g hg => (hF g hg).2)
  clear h hF
  go_enter Try.func30, Try.ntmps30
  go_wp2_with fail
  refine (num_any (m := 64) ((HR.out.alloc _).alloc _) HFn.out).mono ?_
  rintro e w1 ⟨rfl, hrd1, hkp1⟩
  have HRD1 := hid hrd1
  have HKP1 := hid ((((Kp.refl R w).alloc _).alloc _).trans hkp1)
  have HZ1 := hid ((hkp1.block w.heap.size (by simp; omega) (by omega)).trans (heap_alloc2_old _ _ _))
  have HD1 := hid ((hkp1.block (w.heap.size + 1) (by simp) (by omega)).trans (heap_alloc2_new _ _ _))
  have hs1 : w.heap.size + 2 ≤ w1.heap.size := by have := hkp1.size; simp at this; omega
  clear hrd1 hkp1
  obtain ⟨n, hn⟩ := Int.eq_ofNat_of_zero_le (num_bd 64 r).1
  have hnle : n ≤ 64 := by have := num_le (m := 64) (by omega) r; omega
  have HA := hid (show img r = (⟨(rules n (num 64 r).2).1, (classes (num 64 (rules n (num 64 r).2).2).1.toNat (num 64 (rules n (num 64 r).2).2).2).1⟩, (classes (num 64 (rules n (num 64 r).2).2).1.toNat (num 64 (rules n (num 64 r).2).2).2).2) by unfold img; simp only [hn, Int.toNat_natCast])
  rw [hn]
  generalize (num 64 r).2 = r1 at *
  clear hn
  obtain ⟨i0, hi, hz0, hz1, hz2⟩ := info_parts infoRule
  have HI := hid hi
  have HZI := hid (And.intro hz0 (And.intro hz1 hz2))
  clear hi hz0 hz1 hz2
  go_upto_block 0 with fail
  go_cut [] (fun wx => ∃ va, wx.heap[w.heap.size + 1]? = some (.cells #[va, .slice none 0 0] 25 (0, 0)) ∧ Agg 52 16 RuleIn wx (w.heap.size + 2) va (rules n r1).1 ∧ RdAt F R wx (rules n r1).2 ∧ Kp R w wx ∧ wx.heap[w.heap.size]? = some (.cells #[.slice none 0 0, .slice none 0 0] 25 (0, 0)))
  case first =>
    go_wp2_with fail
    go_loopw [7] (fun v wr => ∃ (k : Nat) (l : List Rule) (va : Value) (rk : Rd), k ≤ n ∧ v = .int .i64 k ∧ l.length = k ∧ wr.heap[w.heap.size + 1]? = some (.cells #[va, .slice none 0 0] 25 (0, 0)) ∧ Agg 52 16 RuleIn wr (w.heap.size + 2) va l ∧ RdAt F R wr rk ∧ Kp R w wr ∧ wr.heap[w.heap.size]? = some (.cells #[.slice none 0 0, .slice none 0 0] 25 (0, 0)) ∧ Hid (rules n r1 = (l ++ (rules (n - k) rk).1, (rules (n - k) rk).2))) (fun v _ => n - (intOf v).toNat)
    case atStart => exact ⟨0, [], .slice none 0 0, r1, Nat.zero_le _, rfl, rfl, HD1.out, Agg.nil _ _, HRD1.out, HKP1.out, HZ1.out, hid (by simp)⟩
    case round =>
      obtain ⟨k, l, va, rk, hk, rfl, hlk, hd, hag, hrd, hkp, hz, hst⟩ := hrel
      obtain ⟨gR, oR, cR, hR1, hR2⟩ := hrd
      obtain ⟨z0, z1⟩ := twocells hR1
      have HRr := hid (show RdAt F R wr rk from ⟨gR, oR, cR, hR1, hR2⟩)
      have HD := hid hd
      have HZ := hid hz
      have HAG := hid hag
      have HKP := hid hkp
      have hszr := hkp.size
      have hlD := lt_of_heap hd
      obtain ⟨q0, q1⟩ := twocells hd
      clear hd hz hag hkp hR1 hR2
      by_cases hlt2 : k < n
      · cases hbad : rk.bad
        · have HST : Hid (rules n r1 = (l ++ [(rule rk).1] ++ (rules (n - (k + 1)) (rule rk).2).1, (rules (n - (k + 1)) (rule rk).2).2)) := by
            have h := hst.out
            rw [show n - k = (n - (k + 1)) + 1 by omega, rules_step _ hbad] at h
            exact hid (by rw [h]; simp)
          rw [hbad] at z1
          clear hbad hst
          obtain ⟨vs, e1, e2, e3, e4⟩ := HAG.out
          subst hlk
          obtain ⟨ada, cpa, rfl⟩ := own_shape e3
          have E2 := hid e2
          have E3 := hid e3
          have E4 := hid e4
          clear e2 e3 e4 HAG
          go_upto_region 5 with fail
          have Q := hid (show ∀ W : World, W.heap[w.heap.size + 1]? = wr.heap[w.heap.size + 1]? → W.cell? ⟨w.heap.size + 1, 0, none⟩ = some (.slice ada l.length cpa) from fun W hW => (cell_heap hW).trans q0)
          have hneR : w.heap.size + 1 ≠ R := by omega
          have hk9 : l.length + 1 ≤ maxLen := by unfold maxLen; omega
          have hk8 : (l.length + 1) * 352 ≤ 140737488355328 := by omega
          refine Till.start (S := fun W => W.cell? ⟨w.heap.size + 1, 0, none⟩ = some (.slice ada l.length cpa)) (n := 7) (by kernel_rfl) ?_
          refine Till.takePure (i := 0) (v := _) rfl (by kernel_rfl) (fun _ _ _ h => h) (Or.inl ⟨by rfl, fun w _ => by rfl⟩) (fun _ => q0) ?_
          try simp only [Act.put, List.setIfInBounds_toArray, List.set_cons_zero, List.set_cons_succ]
          refine Till.take (i := 1) (v := .slice ada l.length cpa) rfl (by kernel_rfl) (fun _ _ _ h => h) (Or.inl ⟨by rfl, fun w hS => by go_simp⟩) q0 ?_
          try simp only [Act.put, List.setIfInBounds_toArray, List.set_cons_zero, List.set_cons_succ]
          refine Till.takePure (i := 2) (v := _) rfl (by kernel_rfl) (fun _ _ _ h => h) (Or.inl ⟨by rfl, fun w _ => by rfl⟩) (fun _ => q0) ?_
          try simp only [Act.put, List.setIfInBounds_toArray, List.set_cons_zero, List.set_cons_succ]
          refine Till.all (rs := [3]) (by kernel_rfl) (by simp) (Each.cons rfl (fun K hK => ?_) Each.nil)
          go_simp
          go_at_call 50
          refine (rule_any HRr.out.drew (fun g hg => ⟨HFn.out g hg, Nat.lt_of_lt_of_le (HFb.out g hg) hszr⟩)).mono ?_
          rintro e w5 ⟨cs5, rfl, hru5, hrd5, hkp5⟩
          obtain ⟨ux1, up1, uy1, uq1, uz1, us1, ux2, up2, uy2, uq2, uz2, us2, ux3, up3, uy3, uq3, uz3, us3, ux4, up4, uy4, uq4, uz4, us4, uv4, ut4, hcs⟩ := hru5.shape
          subst hcs
          have HRU := hid hru5
          have HRD5 := hid hrd5
          have HKP5 := hid hkp5
          have hd5 := hkp5.block _ hlD hneR
          have hl5 := Nat.lt_of_lt_of_le hlD hkp5.size
          have HO5 := hid (own_blk (w' := w5) E3.out (fun q hq => hkp5.block q (own_lt E3.out hq).2 (by have := (own_lt E3.out hq).1; omega)))
          have q5 := Q.out _ hd5
          clear hru5 hrd5 hkp5
          unfold ruleC
          refine hK.out _ _ (fun _ => q5) ?_
          clear hK K
          try simp only [Act.put, List.setIfInBounds_toArray, List.set_cons_zero, List.set_cons_succ]
          refine Till.all (rs := [4]) (by kernel_rfl) (by simp) (Each.cons rfl (fun K hK => ?_) Each.nil)
          go_simp
          refine hK.out _ _ (fun _ => (cell_heap (alloc_old hl5)).trans q5) ?_
          clear hK K
          try simp only [Act.put, List.setIfInBounds_toArray, List.set_cons_zero, List.set_cons_succ]
          refine Till.all (rs := [5]) (by kernel_rfl) (by simp) (Each.cons rfl (fun K hK => ?_) Each.nil)
          refine step_append_lies _ (by rfl) _ _ 22 rfl (w.heap.size + 2) 52 i0 _ 16 352 Try.underlying22 HI.out HZI.out.1 HZI.out.2.1 HZI.out.2.2 rfl (by decide) (.slice ada l.length cpa) l.length vs.flatten rfl (HO5.out.alloc _) ⟨w5.heap.size, 0, none⟩ 1 1 (ruleC (rule rk).1 ux1 up1 uy1 uq1 uz1 us1 ux2 up2 uy2 uq2 uz2 us2 ux3 up3 uy3 uq3 uz3 us3 ux4 up4 uy4 uq4 uz4 us4 uv4 ut4) rfl rfl (World.news_of_block (heap_alloc_new _ _)) (ruleC_one (rule rk).1 ux1 up1 uy1 uq1 uz1 us1 ux2 up2 uy2 uq2 uz2 us2 ux3 up3 uy3 uq3 uz3 us3 ux4 up4 uy4 uq4 uz4 us4 uv4 ut4) Nat.one_pos hk9 hk8 (le_alloc hl5) _ rfl ?_
          intro g6 cap6 w6 hown6 hgrow6 hat6 hlt6
          have hd6 := (far_rowk HO5.out hgrow6 hl5 (Nat.lt_succ_self _)).trans hd5
          have HD6 := hid (hd6.trans HD.out)
          have f6 := free_box (i := 0) HD6.out
          have q6 := Q.out _ hd6
          refine hK.out _ _ (fun _ => q6) ?_
          clear hK K
          try simp only [Act.put, List.setIfInBounds_toArray, List.set_cons_zero, List.set_cons_succ]
          refine Till.takePure (i := 6) (v := _) rfl (by kernel_rfl) (fun _ _ _ h => h) (Or.inl ⟨by rfl, fun w _ => by rfl⟩) (fun _ => q6) ?_
          try simp only [Act.put, List.setIfInBounds_toArray, List.set_cons_zero, List.set_cons_succ]
          refine Till.all (rs := [7]) (by kernel_rfl) (by simp) (Each.cons rfl (fun K hK => ?_) Each.nil)
          go_simp
          refine hK.out _ _ (fun h => absurd h (by decide)) ?_
          clear hK K
          try simp only [Act.put, List.setIfInBounds_toArray, List.set_cons_zero, List.set_cons_succ]
          refine Till.done (by kernel_rfl) ?_ _
          have hs5 : wr.heap.size ≤ w5.heap.size := HKP5.out.size
          have hagg6 := hid (Agg.snoc2 (w0 := wr) (w := w5.alloc _) framed_rule e1 E2.out E3.out E4.out (by rw [World.size_alloc]; omega) (fun g h1 h2 => (alloc_old (by omega)).trans (HKP5.out.block g h2 (by omega))) (HRU.out.frame (fun _ h => h) (fun g _ hl => alloc_old hl)) RuleIn.lt rfl (by omega) hown6 hgrow6 hat6)
          have hb7 : Below (w.heap.size + 1) w5 (w6.setCell ⟨w.heap.size + 1, 0, none⟩ (.slice (some ⟨g6, 0, none⟩) (l.length + 1) cap6)) := (((Below.refl _ w5).alloc (by omega) _).grown hgrow6 (by simp; omega) (fun q hq => by have := (own_lt HO5.out hq).1; omega)).setCell (by simp) _
          have HB7 := hid hb7
          have hK7 := hid (HKP.out.drew.trans HKP5.out)
          clear hown6 hgrow6 hb7 hat6
          go_wp2_with fail
          refine And.intro ?_ ?_
          · first | (refine ⟨l.length + 1, l ++ [(rule rk).1], _, (rule rk).2, by omega, by go_num, by simp, two_set0 _ HD6.out, hagg6.out.keep framed_rule (by simp) (fun g h1 _ => heap_setCell_other _ _ _ _ (by simp; omega)), HRD5.out.below HB7.out (by omega) (fun g hg => by have := HFb.out g hg; omega), hK7.out.below (HB7.out.mono (by omega)), (HB7.out.block w.heap.size (by omega)).trans ((HKP5.out.block w.heap.size (Nat.lt_of_lt_of_le (Nat.lt_succ_self _) (Nat.le_of_lt hlD)) (by omega)).trans HZ.out), HST⟩) | (repeat apply Exists.intro; refine And.intro ?_ rfl; refine ⟨l.length + 1, l ++ [(rule rk).1], _, (rule rk).2, by omega, by go_num, by simp, two_set0 _ HD6.out, hagg6.out.keep framed_rule (by simp) (fun g h1 _ => heap_setCell_other _ _ _ _ (by simp; omega)), HRD5.out.below HB7.out (by omega) (fun g hg => by have := HFb.out g hg; omega), hK7.out.below (HB7.out.mono (by omega)), (HB7.out.block w.heap.size (by omega)).trans ((HKP5.out.block w.heap.size (Nat.lt_of_lt_of_le (Nat.lt_succ_self _) (Nat.le_of_lt hlD)) (by omega)).trans HZ.out), HST⟩)
          · simp [intOf]; omega
        · rw [hbad] at z1
          have h9 := hst.out
          rw [rules_bad _ hbad] at h9
          go_wp2_with fail
          go_meet
          rw [h9]
          simp only [List.append_nil]
          exact ⟨_, HD.out, HAG.out, HRr.out, HKP.out, HZ.out⟩
      · obtain rfl : k = n := by omega
        have h9 := hst.out
        rw [Nat.sub_self] at h9
        go_wp2_with fail
        go_meet
        rw [h9]
        simp only [rules, List.append_nil]
        exact ⟨_, HD.out, HAG.out, HRr.out, HKP.out, HZ.out⟩
  case rest =>
    obtain ⟨va, hd, hag, hrd, hkp, hz⟩ := hcut
    generalize (rules n r1).1 = l1 at *
    generalize (rules n r1).2 = r2 at *
    have hszx := hkp.size
    have hlx := lt_of_heap hd
    have HRD := hid hrd
    obtain ⟨ada, cpa, rfl⟩ := hag.shape
    have HRW := hid (hag.row framed_rule)
    clear hag hrd HZI HI HZ1 HD1 HKP1 HRD1 hs1
    go_wp2_with fail
    refine (num_any (m := 64) HRD.out HFn.out).mono ?_
    rintro e wo ⟨rfl, hrd2, hkp2⟩
    have hs2 := hkp2.size
    have HRD2 := hid hrd2
    have HKP2 := hid (hkp.trans hkp2)
    have HZ2 := hid ((hkp2.block w.heap.size (by omega) (by omega)).trans hz)
    have HD2 := hid ((hkp2.block (w.heap.size + 1) (by omega) (by omega)).trans hd)
    have HRW2 := hid (show RulesIn (fun g => w.heap.size + 2 ≤ g ∧ g < wo.heap.size) wo (.slice ada l1.length cpa) l1 from (HRW.out.frame (fun g hg => ⟨hg.1, by omega⟩) (fun g hg hl => hkp2.block g hl (by omega)) (fun _ _ _ h => h)).frame (fun _ h => h) (fun _ _ _ => rfl) (fun _ _ _ h => h.frame (fun g hg => ⟨hg.1, by omega⟩) (fun g hg hl => hkp2.block g hl (by omega))))
    clear hrd2 hkp2 hd hz hkp HRD HRW
    obtain ⟨m, hm⟩ := Int.eq_ofNat_of_zero_le (num_bd 64 r2).1
    have hmle : m ≤ 64 := by have := num_le (m := 64) (by omega) r2; omega
    have HA2 := HA.out
    rw [hm, Int.toNat_natCast] at HA2
    have HA := hid HA2
    rw [hm]
    generalize (num 64 r2).2 = r3 at *
    clear hm HA2
    obtain ⟨j0, hj, hy0, hy1, hy2⟩ := info_parts infoCls
    have HJ := hid hj
    have HZJ := hid (And.intro hy0 (And.intro hy1 hy2))
    clear hj hy0 hy1 hy2
    have FIN : ∀ (W : World) (vb : Value) (l : List Cls) (rk : Rd), W.heap[w.heap.size]? = some (.cells #[.slice none 0 0, .slice none 0 0] 25 (0, 0)) → RulesIn (fun g => w.heap.size + 2 ≤ g ∧ g < wo.heap.size) W (.slice ada l1.length cpa) l1 → Agg 58 4 ClsR W wo.heap.size vb l → RdAt F R W rk → Kp R w W → classes m r3 = (l, rk) →
        ImgPost F R w (img r) (.returned (.agg #[.slice ada l1.length cpa, vb])) ((W.setCell ⟨w.heap.size, 0, none⟩ (.slice ada l1.length cpa)).setCell ⟨w.heap.size, 1, none⟩ vb) := by
      intro W vb l rk hz hr hc hrd hkp hcl
      rw [HA.out, hcl]
      have ho : ∀ g, w.heap.size + 1 ≤ g → ((W.setCell ⟨w.heap.size, 0, none⟩ (.slice ada l1.length cpa)).setCell ⟨w.heap.size, 1, none⟩ vb).heap[g]? = W.heap[g]? := fun g hg => (heap_setCell_other _ _ _ _ (by simp; omega)).trans (heap_setCell_other _ _ _ _ (by simp; omega))
      have hb : Below w.heap.size W ((W.setCell ⟨w.heap.size, 0, none⟩ (.slice ada l1.length cpa)).setCell ⟨w.heap.size, 1, none⟩ vb) := ((Below.refl _ W).setCell (by simp) _).setCell (by simp) _
      exact ⟨_, _, rfl, ⟨hr.frame (fun g hg => by omega) (fun g hg _ => ho g (by omega)), ClsIn.frame (hc.row framed_cls |>.frame (fun _ h => h) (fun _ _ _ => rfl) (fun _ _ _ h => h)) (fun g hg => by omega) (fun g hg _ => ho g (by omega))⟩, hrd.below hb hlt HFb.out, hkp.below hb⟩
    have FINH := hid FIN
    clear FIN HA
    go_wp2_with fail
    go_loopw [23] (fun v wr => ∃ (k : Nat) (l : List Cls) (vb : Value) (rk : Rd), k ≤ m ∧ v = .int .i64 k ∧ l.length = k ∧ wr.heap[w.heap.size + 1]? = some (.cells #[.slice ada l1.length cpa, vb] 25 (0, 0)) ∧ RulesIn (fun g => w.heap.size + 2 ≤ g ∧ g < wo.heap.size) wr (.slice ada l1.length cpa) l1 ∧ Agg 58 4 ClsR wr wo.heap.size vb l ∧ RdAt F R wr rk ∧ Kp R w wr ∧ wo.heap.size ≤ wr.heap.size ∧ wr.heap[w.heap.size]? = some (.cells #[.slice none 0 0, .slice none 0 0] 25 (0, 0)) ∧ Hid (classes m r3 = (l ++ (classes (m - k) rk).1, (classes (m - k) rk).2))) (fun v _ => m - (intOf v).toNat)
    case atStart => exact ⟨0, [], .slice none 0 0, r3, Nat.zero_le _, rfl, rfl, HD2.out, HRW2.out, Agg.nil _ _, HRD2.out, HKP2.out, Nat.le_refl _, HZ2.out, hid (by simp)⟩
    case round =>
      obtain ⟨k, l, vb, rk, hk, rfl, hlk, hd, hru, hag, hrd, hkp, hszo, hz, hst⟩ := hrel
      obtain ⟨gR, oR, cR, hR1, hR2⟩ := hrd
      obtain ⟨z0, z1⟩ := twocells hR1
      have HRr := hid (show RdAt F R wr rk from ⟨gR, oR, cR, hR1, hR2⟩)
      obtain ⟨adb, cpb, rfl⟩ := hag.shape
      have HD := hid hd
      have HZ := hid hz
      have HAG := hid hag
      have HRU := hid hru
      have HKP := hid hkp
      have hszr := hkp.size
      have hlD := lt_of_heap hd
      clear hd hz hag hkp hR1 hR2 hru
      by_cases hlt2 : k < m
      · cases hbad : rk.bad
        · have HST : Hid (classes m r3 = (l ++ [(cls rk).1] ++ (classes (m - (k + 1)) (cls rk).2).1, (classes (m - (k + 1)) (cls rk).2).2)) := by
            have h := hst.out
            rw [show m - k = (m - (k + 1)) + 1 by omega, classes_step _ hbad] at h
            exact hid (by rw [h]; simp)
          rw [hbad] at z1
          clear hbad hst
          obtain ⟨vs, e1, e2, e3, e4⟩ := HAG.out
          subst hlk
          have E2 := hid e2
          have E3 := hid e3
          have E4 := hid e4
          clear e2 e3 e4 HAG
          go_wp2_with fail
          refine (txt_any (m := 256) HRr.out HFn.out).mono ?_
          rintro e w5 ⟨rfl, hrd5, hkp5⟩
          have HRD5 := hid hrd5
          have HKP5 := hid hkp5
          have hs5 := hkp5.size
          clear hrd5 hkp5
          go_wp2_with fail
          refine (auto_any (HRD5.out.alloc _) (fun g hg => ⟨HFn.out g hg, by have := HFb.out g hg; simp; omega⟩)).mono ?_
          rintro e w6 ⟨a6, b6, c6, rfl, hd6, hrd6, hkp6⟩
          have hc6 := (hkp6.block w5.heap.size (by simp) (by omega)).trans (heap_alloc_new _ _)
          have hs6 := hkp6.size
          rw [World.size_alloc] at hs6
          obtain ⟨xa, pa, xb, pb, xc, pc, rfl, rfl, rfl⟩ := hd6.shape
          have HCL := hid (show cls rk = (⟨(txt 256 rk).1, (auto (txt 256 rk).2).1⟩, (auto (txt 256 rk).2).2) from rfl)
          generalize (auto (txt 256 rk).2).1 = dd at *
          generalize (auto (txt 256 rk).2).2 = rn at *
          generalize (txt 256 rk).1 = nm at *
          obtain ⟨y10, y11, y12, y13⟩ := fourcells hc6
          have f11 := free_box (i := 1) hc6
          have f12 := free_box (i := 2) hc6
          have f13 := free_box (i := 3) hc6
          go_upto_region 12 with fail
          have hb7 : Below wr.heap.size w6 (((w6.setCell ⟨w5.heap.size, 1, none⟩ (.slice xa dd.cls.length pa)).setCell ⟨w5.heap.size, 2, none⟩ (.slice xb dd.next.length pb)).setCell ⟨w5.heap.size, 3, none⟩ (.slice xc dd.fin.length pc)) := (((Below.refl _ w6).setCell hs5 _).setCell hs5 _).setCell hs5 _
          have hot7 : ∀ g, g ≠ w5.heap.size → (((w6.setCell ⟨w5.heap.size, 1, none⟩ (.slice xa dd.cls.length pa)).setCell ⟨w5.heap.size, 2, none⟩ (.slice xb dd.next.length pb)).setCell ⟨w5.heap.size, 3, none⟩ (.slice xc dd.fin.length pc)).heap[g]? = w6.heap[g]? := fun g hg => (heap_setCell_other _ _ _ _ hg).trans ((heap_setCell_other _ _ _ _ hg).trans (heap_setCell_other _ _ _ _ hg))
          have hc7 : (((w6.setCell ⟨w5.heap.size, 1, none⟩ (.slice xa dd.cls.length pa)).setCell ⟨w5.heap.size, 2, none⟩ (.slice xb dd.next.length pb)).setCell ⟨w5.heap.size, 3, none⟩ (.slice xc dd.fin.length pc)).heap[w5.heap.size]? = some (.cells #[.string ⟨nm.toArray⟩, .slice xa dd.cls.length pa, .slice xb dd.next.length pb, .slice xc dd.fin.length pc] 58 (0, 0)) := by
            rw [heap_setCell_same _ _ _ _ _ _ (heap_setCell_same _ _ _ _ _ _ (heap_setCell_same _ _ _ _ _ _ hc6))]
            rfl
          have hsz7 : (((w6.setCell ⟨w5.heap.size, 1, none⟩ (.slice xa dd.cls.length pa)).setCell ⟨w5.heap.size, 2, none⟩ (.slice xb dd.next.length pb)).setCell ⟨w5.heap.size, 3, none⟩ (.slice xc dd.fin.length pc)).heap.size = w6.heap.size := by simp
          generalize (((w6.setCell ⟨w5.heap.size, 1, none⟩ (.slice xa dd.cls.length pa)).setCell ⟨w5.heap.size, 2, none⟩ (.slice xb dd.next.length pb)).setCell ⟨w5.heap.size, 3, none⟩ (.slice xc dd.fin.length pc)) = w7 at *
          have hk7 := (((HKP5.out.alloc _).trans hkp6).below hb7)
          have HR7 := hid (hrd6.below hb7 (by omega) (fun g hg => by have := HFb.out g hg; omega))
          have HX7 := hid (show ClsR (fun g => wr.heap.size ≤ g) w7 [.string ⟨nm.toArray⟩, .slice xa dd.cls.length pa, .slice xb dd.next.length pb, .slice xc dd.fin.length pc] ⟨nm, dd⟩ from ⟨xa, pa, xb, pb, xc, pc, rfl, hd6.frame (fun g hg => by rw [World.size_alloc] at hg; omega) (fun g hg hl => hot7 g (by rw [World.size_alloc] at hg; omega))⟩)
          have HD7 := hid ((hk7.block (w.heap.size + 1) hlD (by omega)).trans HD.out)
          have HZ7 := hid ((hk7.block w.heap.size (by omega) (by omega)).trans HZ.out)
          have HRU7 := hid (HRU.out.frame (F' := fun g => w.heap.size + 2 ≤ g ∧ g < wo.heap.size) (fun _ h => h) (fun g hg hl => hk7.block g hl (by omega)))
          have HK7 := hid hk7
          have HC7 := hid hc7
          have HO7 := hid (own_blk (w' := w7) E3.out (fun q hq => hk7.block q (own_lt E3.out hq).2 (by have := (own_lt E3.out hq).1; omega)))
          have hs7 := hk7.size
          clear hsz7 hb7 hot7 hc7 hk7 hrd6 hkp6 hd6 hc6 y10 y11 y12 y13 f11 f12 f13 z0 z1
          obtain ⟨q0, q1⟩ := twocells HD7.out
          obtain ⟨y10, y11, y12, y13⟩ := fourcells HC7.out
          have f1 := free_box (i := 1) HD7.out
          have A2 : ∀ u ∈ ([.string ⟨nm.toArray⟩, .slice xa dd.cls.length pa, .slice xb dd.next.length pb, .slice xc dd.fin.length pc] : List Value), u.oneCell' = true := by simp only [List.forall_mem_cons]; exact ⟨rfl, rfl, rfl, rfl, fun u hu => by cases hu⟩
          have A3 : l.length + 1 ≤ maxLen := by unfold maxLen; omega
          have A4 : (l.length + 1) * 88 ≤ 140737488355328 := by omega
          have A5 := hid (show ∀ o : Obj, wo.heap.size ≤ (w7.alloc o).heap.size from fun o => by rw [World.size_alloc]; omega)
          go_wp2_with (at_builtin; go_loud (refine wpList_append_lies rfl _ _ 23 rfl wo.heap.size 58 j0 _ 4 88 Try.underlying23 HJ.out HZJ.out.1 HZJ.out.2.1 HZJ.out.2.2 rfl (by decide) _ l.length vs.flatten rfl (HO7.out.alloc _) ⟨w7.heap.size, 0, none⟩ 1 1 [.string ⟨nm.toArray⟩, .slice xa dd.cls.length pa, .slice xb dd.next.length pb, .slice xc dd.fin.length pc] rfl rfl (World.news_of_block (heap_alloc_new _ _)) A2 Nat.one_pos A3 A4 (A5.out _) ?_); intro g8 cap8 w8 hown8 hgrow8 hat8 hlt8; have hd8 := ((hgrow8.block (w.heap.size + 1) (by rw [World.size_alloc]; omega) (fun e => by have := (own_lt E3.out e.symm).1; omega)).trans (alloc_old (by omega))).trans HD7.out; have f8 := free_box (i := 1) hd8; obtain ⟨q8, q9⟩ := twocells hd8; have HD8 := hid hd8; have HOWN8 := hid hown8; have HGR8 := hid hgrow8; have HAT8 := hid hat8; clear hd8 hown8 hgrow8 hat8)
          have hown8 := HOWN8.out
          have hgrow8 := HGR8.out
          have hat8 := HAT8.out
          have hagg8 := hid (Agg.snoc2 (w0 := wr) (w := w7.alloc _) framed_cls e1 E2.out E3.out E4.out (by rw [World.size_alloc]; omega) (fun g h1 h2 => (alloc_old (by omega)).trans (HK7.out.block g h2 (by omega))) (HX7.out.frame (fun _ h => h) (fun g _ hl => alloc_old hl)) ClsR.lt rfl hszo hown8 hgrow8 hat8)
          have HB8 := hid (show Below (w.heap.size + 1) w7 (w8.setCell ⟨w.heap.size + 1, 1, none⟩ (.slice (some ⟨g8, 0, none⟩) (l.length + 1) cap8)) from (((Below.refl _ w7).alloc (by omega) _).grown hgrow8 (by rw [World.size_alloc]; omega) (fun q hq => by have := (own_lt E3.out hq).1; omega)).setCell (by simp) _)
          have HRU8 := hid (HRU7.out.frame (w' := w8.setCell ⟨w.heap.size + 1, 1, none⟩ (.slice (some ⟨g8, 0, none⟩) (l.length + 1) cap8)) (fun _ h => h) (fun g hg hl => (heap_setCell_other _ _ _ _ (by simp; omega)).trans ((hgrow8.block g (by rw [World.size_alloc]; omega) (fun e => by have := (own_lt E3.out e.symm).1; omega)).trans (alloc_old hl))))
          have hs8 := hgrow8.size
          rw [World.size_alloc] at hs8
          clear hown8 hgrow8 hat8 HOWN8 HGR8 HAT8
          go_roundw
          case rel =>
            have h9 := HST.out
            rw [HCL.out] at h9
            exact ⟨l.length + 1, l ++ [⟨nm, dd⟩], _, rn, by omega, by go_num, by simp, two_set1 _ HD8.out, HRU8.out, hagg8.out.keep framed_cls (by simp) (fun g h1 _ => heap_setCell_other _ _ _ _ (by simp; omega)), HR7.out.below HB8.out (by omega) (fun g hg => by have := HFb.out g hg; omega), (HKP.out.trans HK7.out).below (HB8.out.mono (by omega)), by simp; omega, (HB8.out.block w.heap.size (by omega)).trans HZ7.out, hid h9⟩
          case measure => simp [intOf]; omega
        · obtain ⟨q0, q1⟩ := twocells HD.out
          obtain ⟨y0, y1⟩ := twocells HZ.out
          have f0 := free_box (i := 0) HZ.out
          have f1 := free_box (i := 1) HZ.out
          rw [hbad] at z1
          have h9 := hid hst.out
          rw [classes_bad _ hbad] at h9
          simp only [List.append_nil] at h9
          clear hst
          go_wp2_with fail
          exact bodyPost_ret (results_cell_row (ty := 25) rfl _ _ w.heap.size 25 _ (0, 0) _ rfl (two_end HZ.out) Try.underlying25 rfl (by kernel_rfl)) rfl (FINH.out _ _ l rk HZ.out HRU.out (by have h := HAG.out; rw [hlk] at h; exact h) HRr.out HKP.out h9.out)
      · obtain rfl : k = m := by omega
        obtain ⟨q0, q1⟩ := twocells HD.out
        obtain ⟨y0, y1⟩ := twocells HZ.out
        have f0 := free_box (i := 0) HZ.out
        have f1 := free_box (i := 1) HZ.out
        have h9 := hid hst.out
        rw [Nat.sub_self] at h9
        simp only [classes, List.append_nil] at h9
        clear hst
        go_wp2_with fail
        exact bodyPost_ret (results_cell_row (ty := 25) rfl _ _ w.heap.size 25 _ (0, 0) _ rfl (two_end HZ.out) Try.underlying25 rfl (by kernel_rfl)) rfl (FINH.out _ _ l rk HZ.out HRU.out (by have h := HAG.out; rw [hlk] at h; exact h) HRr.out HKP.out h9.out)
end Go.Proofs.Ytdokeelodcckoaa.Im
