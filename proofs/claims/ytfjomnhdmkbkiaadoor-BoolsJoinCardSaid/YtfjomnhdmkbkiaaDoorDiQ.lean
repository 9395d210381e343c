/-
  bools' pairs, And, Or, Less, Apart, Not; layer 12's example; automatons in boxes; few states.
-/
import Derived.Test.YtfjomnhdmkbkiaaDoorDiP
import Derived.Test.YtfjomnhdmkbkiaaDoorDgC
namespace Go.Proofs.YtfjomnhdmkbkiaaDoor.Im
open Go.RowKit Go.Lib Go.Maps

/-- where the walk over the pairs stands -/
structure WNum (a b : Dfa) (f : Bool → Bool → Bool) (fs : List Nat) (s : Nat) (rows : List Pr) (next : List (List Int)) (fin : List Bool) : Prop where
  most : rows.length ≤ 1024
  len : next.length = s
  flen : fin.length = s
  le : s ≤ rows.length
  ok : ∀ r ∈ rows, (0 ≤ r.1 ∧ r.1 < a.next.length) ∧ 0 ≤ r.2 ∧ r.2 < b.next.length
  hist : fromW (toP a b) (endP f a b) fs (1026 - s) s rows next fin = fromW (toP a b) (endP f a b) fs 1026 0 [(0, 0)] [] []
section
variable {a b : Dfa} {f : Bool → Bool → Bool} {fs : List Nat} {s : Nat} {rows : List Pr} {next : List (List Int)} {fin : List Bool}
theorem WNum.last (h : WNum a b f fs s rows next fin) (hs : ¬ s < rows.length) : fromW (toP a b) (endP f a b) fs 1026 0 [(0, 0)] [] [] = .ok (next, fin) := by
  have h1 := h.hist
  have h2 := h.most
  have h3 := h.le
  rw [show 1026 - s = (1025 - s) + 1 by omega, fromW, List.getElem?_eq_none (by omega)] at h1
  exact h1.symm
theorem WNum.bad (h : WNum a b f fs s rows next fin) (hs : s < rows.length) {e : Int} (he : nextW (toP a b rows[s]) rows [] fs = .error e) : fromW (toP a b) (endP f a b) fs 1026 0 [(0, 0)] [] [] = .error e := by
  have h1 := h.hist
  have h2 := h.most
  rw [show 1026 - s = (1025 - s) + 1 by omega, fromW, List.getElem?_eq_getElem hs] at h1
  simp only [he] at h1
  exact h1.symm
theorem WNum.good (h : WNum a b f fs s rows next fin) (hs : s < rows.length) {l : List Int} {rows' : List Pr} (he : nextW (toP a b rows[s]) rows [] fs = .ok (l, rows')) (hm : rows'.length ≤ 1024) (hl : rows.length ≤ rows'.length) (hok : ∀ r ∈ rows', (0 ≤ r.1 ∧ r.1 < a.next.length) ∧ 0 ≤ r.2 ∧ r.2 < b.next.length) :
    WNum a b f fs (s + 1) rows' (next ++ [l]) (fin ++ [endP f a b rows[s]]) := by
  have h1 := h.hist
  have h2 := h.most
  rw [show 1026 - s = (1025 - s) + 1 by omega, fromW, List.getElem?_eq_getElem hs] at h1
  simp only [he] at h1
  exact ⟨hm, by rw [List.length_append, h.len]; rfl, by rw [List.length_append, h.flen]; rfl, by omega, hok, by rw [← h1, show 1026 - (s + 1) = 1025 - s by omega]⟩
end
theorem two_set {w : World} {P : Nat} {a b : Value} {T : TypeId} (x y : Value) (h : w.heap[P]? = some (.cells #[a, b] T (0, 0))) : ((w.setCell ⟨P, 0, none⟩ x).setCell ⟨P, 1, none⟩ y).heap[P]? = some (.cells #[x, y] T (0, 0)) := by
  rw [heap_setCell_same _ _ _ _ _ _ (heap_setCell_same _ _ _ _ _ _ h)]; rfl
theorem own_two {w : World} {P : Nat} {x y : Value} {T : TypeId} (h : w.heap[P]? = some (.cells #[x, y] T (0, 0))) : ∀ j u, [x, y][j]? = some u → w.cell? ((⟨P, 0, none⟩ : Addr).add j) = some u := fun j u hu => by
  rw [Addr.add_lit, Nat.zero_add]
  exact cell_blk h (by simpa using hu)
theorem two_one (x y : Int) : ∀ u ∈ [Value.int .i64 x, Value.int .i64 y], u.oneCell' = true := by simp [Value.oneCell']
theorem step_append {P : Program} {ops : Array Oper} {o : Oper} {a : Act} {w : World} {K : Act → World → Prop} {Q : Exit → Act → World → Prop} {E : Prop} (hg : o.guard = none) (s x : Operand) (t : TypeId)
    (ho : o.op = .call { callee := .builtin .append, args := #[s, x], argTypes := #[t, t] })
    (base : Nat) (e : TypeId) (i : TypeInfo) (z : Value) (size bytes : Nat) (ht : P.underlying t = some (.slice e)) (hi : P.info? e = some i) (hz : i.zero = some z)
    (hsize : i.size = size) (hby : i.bytes = bytes) (hzs : z.cells.size = size) (hsz : 0 < size)
    (v : Value) (n : Nat) (xs : List Value) (hs : a.eval s = v) (hown : w.ownsRow base e size v n xs)
    (ad : Addr) (m c : Nat) (news : List Value) (hx : a.eval x = .slice (some ad) m c) (hl : news.length = m * size) (hnews : ∀ j u, news[j]? = some u → w.cell? (ad.add j) = some u) (h1 : ∀ u ∈ news, u.oneCell' = true)
    (h63 : n + m ≤ maxLen) (hbytes : (n + m) * bytes ≤ 140737488355328) (hbase : base ≤ w.heap.size)
    (h : ∀ v' w', w'.ownsRow base e size v' (n + m) (xs ++ news) → w.grownBy w' v.ownBlock → (v' = .slice none 0 0 ↔ v = .slice none 0 0 ∧ m = 0) → K (a.put o.dst v') w') :
    if Region.wanted o (yielded ops a.tmps) = true then Oper.wp P o a w K Q else E := by
  rw [if_pos (by simp [Region.wanted, hg])]
  exact wp_append_own w s x t ho base e i z size bytes ht hi hz hsize hby hzs hsz v n xs hs hown ad m c news hx hl hnews h1 h63 hbytes hbase h
theorem cell_in {w : World} {g o : Nat} {v : Value} (h : w.cell? ⟨g, o, none⟩ = some v) : g < w.heap.size := by
  rcases Nat.lt_or_ge g w.heap.size with hl | hl
  · exact hl
  · rw [World.cell?, show w.heap[g]? = none from Array.getElem?_eq_none hl] at h
    cases h
/-- one step of an automaton, as it lies in memory -/
theorem step_at {F : Nat → Prop} {w : World} {ad1 ad2 : Option Addr} {n1 c1 n2 c2 : Nat} {d : Dfa} (h1 : IntsIn F w (.slice ad1 n1 c1) d.cls) (h2 : RowsIn F w (.slice ad2 n2 c2) d.next) (hd : dfaOk d = true) {z : Nat} (hz : z < d.next.length) {x : Nat} (hx : x < 256) :
    ∃ (g1 o1 g2 o2 g3 o3 n3 c3 : Nat) (k : Nat) (r : Nat), ad1 = some ⟨g1, o1, none⟩ ∧ x < n1 ∧ w.cell? ⟨g1, o1 + x, none⟩ = some (.int .i64 k) ∧ ad2 = some ⟨g2, o2, none⟩ ∧ z < n2 ∧ w.cell? ⟨g2, o2 + z, none⟩ = some (.slice (some ⟨g3, o3, none⟩) n3 c3) ∧ k < n3 ∧ n3 ≤ maxLen ∧ w.cell? ⟨g3, o3 + k, none⟩ = some (.int .i64 r) ∧ stepD d z x = r ∧ r < d.next.length := by
  have e : (UInt8.ofNat x).toNat = x := by rw [UInt8.toNat_ofNat']; exact Nat.mod_eq_of_lt hx
  have := go_at h1 h2 hd hz (UInt8.ofNat x)
  rw [goM_step, e] at this
  exact this
theorem PBase.dfa {Wl W W' : World} {Bd g0 M C R B : Nat} {rows : List Pr} {next : List (List Int)} {fin : List Bool} {rv nv ev : Value} {cl : List Int} (h : PBase Wl Bd g0 M C W rows next fin rv nv ev) (hcl : ClsIn W C cl) (hl : cl.length = 256) (hB : B ≤ R) (hC : R < C) (hW : R < Wl.heap.size) (ht : Turn (fun g => g = R) W W') :
    DfaIn (fun g => B ≤ g ∧ g < W'.heap.size) W' (.slice (some ⟨C, 0, none⟩) 256 256) nv ev ⟨cl, next, fin⟩ := by
  have kk : ∀ {base e n : Nat} {u : Value} {xs : List Value}, R < base → W.ownsRow base e 1 u n xs → W'.ownsRow base e 1 u n xs := fun hb hu => own_blk hu fun g hg => ht.block g (own_lt hu hg).2 (by have := (own_lt hu hg).1; omega)
  obtain ⟨vs, n1, n2, n3⟩ := h.nxt.ex
  refine ⟨?_, ?_, ?_⟩
  · have h1 := kk hC hcl
    have e : OwnInts W' C (.slice (some ⟨C, 0, none⟩) 256 256) cl := by unfold OwnInts; rw [hl]; exact h1
    exact (ints_of_own e (own_max e)).frame (fun g hg => ⟨by have := hg.1; omega, hg.2⟩) (fun _ _ _ => rfl)
  · exact (rows_of_own (kk hW n1) n2 (fun i v l e1 e2 => kk hW (n3 i v l e1 e2).1) (n2 ▸ own_max n1) (fun l hl => by
      obtain ⟨i, hi, rfl⟩ := List.getElem_of_mem hl
      exact own_max (n3 i _ _ (List.getElem?_eq_getElem (by omega)) (List.getElem?_eq_getElem hi)).1)).frame (fun g hg => ⟨by have := hg.1; omega, hg.2⟩) (fun _ _ _ => rfl)
  · exact (bools_of_own (kk hW h.fins) (own_max h.fins)).frame (fun g hg => ⟨by have := hg.1; omega, hg.2⟩) (fun _ _ _ => rfl)
/-- the function value fv, called at two truths, hands back f of them, and leaves the memory as it is -/
def FnOk (fv : FuncId) (f : Bool → Bool → Bool) : Prop := ∀ (x y : Bool) (W : World) (o : Oper) (a : Act) (K : Act → World → Prop) (Q : Exit → Act → World → Prop), K (a.put o.dst (.bool (f x y))) W → Oper.upon Tryd.prog o a K Q ((callFunc fv #[.bool x, .bool y]).run Tryd.prog W)
theorem infoJoint : (Tryd.prog.info? 96).map (·.size) = some 1 := by kernel_rfl
set_option maxRecDepth 100000 in
set_option maxHeartbeats 16000000 in
theorem pairs_main {F G : Nat → Prop} {w : World} {fv : FuncId} {f : Bool → Bool → Bool} {a1 a2 a3 b1 b2 b3 : Value} {a b : Dfa} (ha : DfaIn F w a1 a2 a3 a) (hb : DfaIn G w b1 b2 b3 b) (hF : ∀ g, F g → g < w.heap.size) (hG : ∀ g, G g → g < w.heap.size) (hT : Tab w)
    (hfv : FnOk fv f) (hoka : dfaOk a = true) (hokb : dfaOk b = true) :
    Calls Tryd.prog 65 #[.agg #[.func (.func fv) #[] #[]], .agg #[a1, a2, a3], .agg #[b1, b2, b3]] w (OfPost w (joinM f a b)) := by
  obtain ⟨ks, p, fs, hp, hpm, hcm, hjoin⟩ := join_open f hoka hokb
  obtain ⟨xr, hxr⟩ : ∃ xr, xr = joinM f a b := ⟨_, rfl⟩
  rw [← hxr] at hjoin ⊢
  have HXR := hid hjoin
  obtain ⟨W0, hW0⟩ : ∃ W0, W0 = (((w.alloc (.cells #[.func (.func fv) #[] #[]] 96)).alloc (.cells #[a1, a2, a3] 30)).alloc (.cells #[b1, b2, b3] 30)).alloc (.cells #[.slice none 0 0, .slice none 0 0, .slice none 0 0] 30) := ⟨_, rfl⟩
  have hJ0 : W0.heap[w.heap.size]? = some (.cells #[.func (.func fv) #[] #[]] 96 (0, 0)) := by rw [hW0]; exact (alloc_old (by simp; omega)).trans ((alloc_old (by simp; omega)).trans ((alloc_old (by simp)).trans (heap_alloc_new _ _)))
  have hA0 : W0.heap[w.heap.size + 1]? = some (.cells #[a1, a2, a3] 30 (0, 0)) := by rw [hW0]; exact (alloc_old (by simp)).trans ((alloc_old (by simp)).trans (newB _ _ _))
  have hC0 : W0.heap[w.heap.size + 1 + 1]? = some (.cells #[b1, b2, b3] 30 (0, 0)) := by
    rw [hW0]
    refine (alloc_old (by simp)).trans ?_
    have := newB (w.alloc (.cells #[.func (.func fv) #[] #[]] 96)) (.cells #[a1, a2, a3] 30) (.cells #[b1, b2, b3] 30)
    rw [World.size_alloc] at this
    exact this
  have hR0 : W0.heap[w.heap.size + 1 + 1 + 1]? = some (.cells #[.slice none 0 0, .slice none 0 0, .slice none 0 0] 30 (0, 0)) := by
    rw [hW0]
    have := newB ((w.alloc (.cells #[.func (.func fv) #[] #[]] 96)).alloc (.cells #[a1, a2, a3] 30)) (.cells #[b1, b2, b3] 30) (.cells #[.slice none 0 0, .slice none 0 0, .slice none 0 0] 30)
    rw [World.size_alloc, World.size_alloc] at this
    exact this
  have hB0 : Below w.heap.size w W0 := by rw [hW0]; exact ((((Below.refl _ _).alloc (Nat.le_refl _) _).alloc (by simp) _).alloc (by simp; omega) _).alloc (by simp; omega) _
  have hz0 : W0.heap.size = w.heap.size + 4 := by rw [hW0]; simp
  have HBW := hid (fun (W : World) (h : Below W0.heap.size W0 W) => hB0.trans (h.mono hB0.size))
  have HAW := hid (fun (W : World) (h : Below W0.heap.size W0 W) => (show DfaIn F W a1 a2 a3 a from ha.frame (fun _ h => h) (fun g hg _ => (HBW.out W h).block g (hF g hg))))
  have HCW := hid (fun (W : World) (h : Below W0.heap.size W0 W) => (show DfaIn G W b1 b2 b3 b from hb.frame (fun _ h => h) (fun g hg _ => (HBW.out W h).block g (hG g hg))))
  have HF := hid hF
  have HG := hid hG
  have HJW := hid (fun (W : World) (h : Below W0.heap.size W0 W) => (h.block w.heap.size (lt_of_heap hJ0)).trans hJ0)
  have HXA := hid (fun (W : World) (h : Below W0.heap.size W0 W) => (h.block (w.heap.size + 1) (lt_of_heap hA0)).trans hA0)
  have HXC := hid (fun (W : World) (h : Below W0.heap.size W0 W) => (h.block (w.heap.size + 1 + 1) (lt_of_heap hC0)).trans hC0)
  have HRW := hid (fun (W : World) (h : Below W0.heap.size W0 W) => (h.block (w.heap.size + 1 + 1 + 1) (lt_of_heap hR0)).trans hR0)
  have HTH := hid (fun (W W' : World) (h : Below W0.heap.size W0 W) (h' : Below W.heap.size W W') => h.trans (h'.mono h.size))
  have HT := hid hT
  have HFV := hid hfv
  have HP := hid hp
  have HPM := hid hpm
  have HCM := hid hcm
  have HOA := hid hoka
  have HOB := hid hokb
  obtain ⟨ada, cpa, rfl, hma, _⟩ := ha.cls
  obtain ⟨adb, cpb, rfl, hmb, _⟩ := ha.next
  obtain ⟨adc, cpc, rfl, hmc, _⟩ := ha.fin
  obtain ⟨ada', cpa', rfl, hma', _⟩ := hb.cls
  obtain ⟨adb', cpb', rfl, hmb', _⟩ := hb.next
  obtain ⟨adc', cpc', rfl, hmc', _⟩ := hb.fin
  unfold maxLen at hma hmb hmc hma' hmb' hmc'
  have HW0 := hid hW0
  have HZ0 := hid hz0
  clear ha hb hF hG hT hfv hoka hokb hp hpm hcm hjoin hxr hJ0 hA0 hC0 hR0 hB0 hz0 hW0
  obtain ⟨q0, q1, q2⟩ := dcells (HXA.out W0 (Below.refl _ _))
  obtain ⟨r0, r1, r2⟩ := dcells (HXC.out W0 (Below.refl _ _))
  have hch := dfaCheck_any (HAW.out W0 (Below.refl _ _)) (fun g hg => Nat.lt_of_lt_of_le (HF.out g hg) (HBW.out W0 (Below.refl _ _)).size)
  rw [errOf_true HOA.out] at hch
  go_enter Tryd.func65, Tryd.ntmps65
  go_upto_region 1 with fail
  rw [← HW0.out]
  go_wp2_with fail
  refine hch.mono ?_
  clear hch q0 q1 q2 r0 r1 r2
  rintro e w1 ⟨rfl, hb1⟩
  have H1 := hid (HTH.out _ _ (Below.refl _ _) hb1)
  clear hb1
  obtain ⟨r0, r1, r2⟩ := dcells (HXC.out w1 H1.out)
  have hch := dfaCheck_any (HCW.out w1 H1.out) (fun g hg => Nat.lt_of_lt_of_le (HG.out g hg) (HBW.out w1 H1.out).size)
  rw [errOf_true HOB.out] at hch
  go_wp2_with fail
  refine hch.mono ?_
  clear hch r0 r1 r2
  rintro e w2 ⟨rfl, hb2⟩
  have H2 := hid (HTH.out _ _ H1.out hb2)
  clear hb2
  obtain ⟨q0, q1, q2⟩ := dcells (HXA.out w2 H2.out)
  obtain ⟨r0, r1, r2⟩ := dcells (HXC.out w2 H2.out)
  have hsh := shared_any (HAW.out w2 H2.out) (HCW.out w2 H2.out) (fun g hg => Nat.lt_of_lt_of_le (HF.out g hg) (HBW.out w2 H2.out).size) (fun g hg => Nat.lt_of_lt_of_le (HG.out g hg) (HBW.out w2 H2.out).size) (HT.out.below (HBW.out w2 H2.out)) HOA.out HOB.out HP.out HPM.out HCM.out
  go_wp2_with fail
  refine hsh.mono ?_
  clear hsh q0 q1 q2 r0 r1 r2
  rintro e w3 ⟨adp, cpp, C, rfl, hC, hop, hcls, hb3⟩
  have H3 := hid (HTH.out _ _ H2.out hb3)
  have HOP3 := hid (own_mono hop H2.out.size)
  have HCS3 := hid hcls
  have hC3 := (own_lt hcls rfl).2
  have hC0 : w.heap.size + 4 ≤ C := by have := H2.out.size; have := HZ0.out; omega
  clear hop hcls hb3 hC
  go_upto_region 7 with fail
  obtain ⟨W4, hW4⟩ : ∃ W4, W4 = w3.alloc (.cells #[.int .i64 0, .int .i64 0] 97) := ⟨_, rfl⟩
  have HB4 := hid (show Below w3.heap.size w3 W4 by rw [hW4]; exact (Below.refl _ _).alloc (Nat.le_refl _) _)
  have HG4 := hid (show W4.heap[w3.heap.size]? = some (.cells (Pr.cs (0, 0)) 97 (0, 0)) by rw [hW4]; exact heap_alloc_new _ _)
  have HZ4 := hid (show W4.heap.size = w3.heap.size + 1 by rw [hW4]; simp)
  rw [← hW4]
  clear hW4
  have hmm := @run_makeMap Tryd.prog
  obtain ⟨l00, hl00⟩ := keyOf_pr (r := (0, 0)) ⟨⟨Int.le_refl _, by decide⟩, Int.le_refl _, by decide⟩
  have HL00 := hid hl00
  have HPA := hid (PlacesAt.made Tryd.prog 97 3 Pr.v W4)
  clear hl00
  go_upto_region 8 with (refine wpList_place_ins _ rfl _ _ _ 125 rfl 97 3 prKey Tryd.underlying125 Tryd.underlying3 Pr.v prV_inj W4.heap.size [] rfl HPA.out (by unfold maxLen; decide) (0, 0) l00 rfl rfl HL00.out (by simp) ?_; intro w5 hk5 ht5)
  have HK5 := hid hk5
  have hb5 : Below W4.heap.size W4 w5 := below_turned ((Below.refl _ _).alloc (Nat.le_refl _) _) ht5 (Nat.le_refl _) (by simp)
  have HB5 := hid hb5
  have hM5 := hk5.lt
  clear hk5 ht5 hb5 hmm HPA
  go_upto_region 9 with fail
  obtain ⟨Wl, hWl⟩ : ∃ Wl, Wl = w5.alloc (.cells #[.slice (some ⟨C, 0, none⟩) 256 256, .slice none 0 0, .slice none 0 0] 30) := ⟨_, rfl⟩
  have HBl := hid (show Below w5.heap.size w5 Wl by rw [hWl]; exact (Below.refl _ _).alloc (Nat.le_refl _) _)
  have HDl := hid (show Wl.heap[w5.heap.size]? = some (.cells #[.slice (some ⟨C, 0, none⟩) 256 256, .slice none 0 0, .slice none 0 0] 30 (0, 0)) by rw [hWl]; exact heap_alloc_new _ _)
  have HZl := hid (show Wl.heap.size = w5.heap.size + 1 by rw [hWl]; simp)
  rw [← hWl]
  clear hWl
  have H4 := hid (HTH.out _ _ H3.out HB4.out)
  have H5 := hid (HTH.out _ _ H4.out HB5.out)
  have Hl := hid (HTH.out _ _ H5.out HBl.out)
  have hz4 := HZ4.out
  have hg4 : w3.heap.size < W4.heap.size := by omega
  have hGl : Wl.heap[w3.heap.size]? = some (.cells (Pr.cs (0, 0)) 97 (0, 0)) := (HBl.out.block _ (by omega)).trans ((HB5.out.block _ hg4).trans HG4.out)
  have hKl : PrKeys Wl W4.heap.size [(0, 0)] := PlacesAt.block HK5.out (HBl.out.block _ hM5)
  have HOPl := hid (own_later (own_later (own_later HOP3.out HB4.out) (HB5.out)) HBl.out)
  have HCSl := hid (own_later (own_later (own_later HCS3.out HB4.out) (HB5.out)) HBl.out)
  have hpl : ∀ g, (Value.slice adp p.length cpp).ownBlock = some g → w.heap.size + 4 ≤ g ∧ g < w3.heap.size := fun g hg => by
    have := own_lt HOP3.out hg
    have := HZ0.out
    omega
  have HPLB := hid hpl
  have HGl := hid hGl
  have HKl := hid hKl
  clear hGl hKl hpl HOP3 HCS3 HB4 HB5 HBl HG4 HK5 HZ4 hz4
  have hzl := HZl.out
  generalize w3.heap.size = g0 at *
  generalize W4.heap.size = M at *
  generalize w5.heap.size = Bd at *
  have HBL := hid (PBase.start HDl.out HGl.out HKl.out)
  have hbd : Bd < Wl.heap.size := by omega
  have hMl : M < Wl.heap.size := by omega
  have hgl : g0 < Wl.heap.size := by omega
  have n1 : Bd ≠ g0 := by omega
  have n2 : Bd ≠ M := by omega
  have HJT := hid (fun (W : World) (h : Turn (fun g => g = Bd ∨ g = g0 ∨ g = M) Wl W) => (show W.heap[w.heap.size]? = some (.cells #[.func (.func fv) #[] #[]] 96 (0, 0)) from (h.block _ (by omega) (fun e => by omega)).trans (HJW.out Wl Hl.out)))
  have HXAT := hid (fun (W : World) (h : Turn (fun g => g = Bd ∨ g = g0 ∨ g = M) Wl W) => (show W.heap[w.heap.size + 1]? = some (.cells #[.slice ada a.cls.length cpa, .slice adb a.next.length cpb, .slice adc a.fin.length cpc] 30 (0, 0)) from (h.block _ (by omega) (fun e => by omega)).trans (HXA.out Wl Hl.out)))
  have HXCT := hid (fun (W : World) (h : Turn (fun g => g = Bd ∨ g = g0 ∨ g = M) Wl W) => (show W.heap[w.heap.size + 1 + 1]? = some (.cells #[.slice ada' b.cls.length cpa', .slice adb' b.next.length cpb', .slice adc' b.fin.length cpc'] 30 (0, 0)) from (h.block _ (by omega) (fun e => by omega)).trans (HXC.out Wl Hl.out)))
  have HRT := hid (fun (W : World) (h : Turn (fun g => g = Bd ∨ g = g0 ∨ g = M) Wl W) => (show W.heap[w.heap.size + 1 + 1 + 1]? = some (.cells #[.slice none 0 0, .slice none 0 0, .slice none 0 0] 30 (0, 0)) from (h.block _ (by omega) (fun e => by omega)).trans (HRW.out Wl Hl.out)))
  have HAT := hid (fun (W : World) (h : Turn (fun g => g = Bd ∨ g = g0 ∨ g = M) Wl W) => (show DfaIn F W (.slice ada a.cls.length cpa) (.slice adb a.next.length cpb) (.slice adc a.fin.length cpc) a from (HAW.out Wl Hl.out).frame (fun _ h => h) (fun g hg hgl => h.block g hgl (fun e => by have := HF.out g hg; omega))))
  have HCT := hid (fun (W : World) (h : Turn (fun g => g = Bd ∨ g = g0 ∨ g = M) Wl W) => (show DfaIn G W (.slice ada' b.cls.length cpa') (.slice adb' b.next.length cpb') (.slice adc' b.fin.length cpc') b from (HCW.out Wl Hl.out).frame (fun _ h => h) (fun g hg hgl => h.block g hgl (fun e => by have := HG.out g hg; omega))))
  have HCLT := hid (fun (W : World) (h : Turn (fun g => g = Bd ∨ g = g0 ∨ g = M) Wl W) => (show ClsIn W C (clsOf (setsD a ++ setsD b) ks) from own_blk HCSl.out (fun g hg => by cases hg; exact h.block C (by omega) (fun e => by omega))))
  have HPT := hid (fun (W : World) (h : Turn (fun g => g = Bd ∨ g = g0 ∨ g = M) Wl W) => own_blk HOPl.out (fun g hg => h.block _ (by have := HPLB.out g hg; omega) (fun e => by have := HPLB.out g hg; omega)))
  have HBT := hid (fun (W : World) (h : Turn (fun g => g = Bd ∨ g = g0 ∨ g = M) Wl W) => (show Below w.heap.size w W from (HBW.out Wl Hl.out).trans (h.below (by omega) (fun g hg => by omega))))
  have HTT := hid (fun (W : World) (h : Turn (fun g => g = Bd ∨ g = g0 ∨ g = M) Wl W) => (show Tab W from HT.out.below (HBT.out W h)))
  have hfew : p.length ≤ 256 := HP.out.few
  have HPL := hid HP.out.len
  have HPO := hid HP.out.ok
  have HPF := hid (show ∀ i (h : i < p.length), ∃ h2 : i < fs.length, firstS p[i] = some fs[i] from fun i h => ⟨by rw [← HP.out.len]; exact h, HP.out.first (by rw [← HP.out.len]; exact h) h⟩)
  have HPX := hid HP.out.lt
  have HN1 := hid (show 1 ≤ a.next.length ∧ 1 ≤ b.next.length ∧ a.next.length ≤ 1024 ∧ b.next.length ≤ 1024 ∧ a.fin.length = a.next.length ∧ b.fin.length = b.next.length by
    obtain ⟨_, _, _, h1, h2, h3, _⟩ := dfaOk_parts HOA.out
    obtain ⟨_, _, _, h4, h5, h6, _⟩ := dfaOk_parts HOB.out
    exact ⟨h1, h4, h2, h5, h3, h6⟩)
  have HSTART := hid (show WNum a b f fs 0 [(0, 0)] [] [] from ⟨by simp, rfl, rfl, Nat.zero_le _, fun r hr => by
    rw [List.mem_singleton.1 hr]
    have := HN1.out
    exact ⟨⟨Int.le_refl _, by show (0 : Int) < _; omega⟩, Int.le_refl _, by show (0 : Int) < _; omega⟩, rfl⟩)
  clear HJW HXA HXC HRW HAW HCW HBW HTH HT HP HPM HCM HDl HGl HKl HZl HOPl HCSl HPLB HW0 HZ0 HL00 Hl H1 H2 H3 H4 H5
  obtain ⟨i0, hi, hz0, hz1, hz2⟩ := info_parts infoI
  have HII := hid hi
  have HZI := hid (And.intro hz0 (And.intro hz1 hz2))
  clear hi hz0 hz1 hz2
  obtain ⟨iR, hi, hz0, hz1, hz2⟩ := info_parts infoR
  have HIR := hid hi
  have HZR := hid (And.intro hz0 (And.intro hz1 hz2))
  clear hi hz0 hz1 hz2
  obtain ⟨iB, hi, hz0, hz1, hz2⟩ := info_parts infoL
  have HIB := hid hi
  have HZB := hid (And.intro hz0 (And.intro hz1 hz2))
  clear hi hz0 hz1 hz2
  obtain ⟨iP, hi, hz0, hz1, hz2⟩ := info_parts infoP
  have HIP := hid hi
  have HZP := hid (And.intro hz0 (And.intro hz1 hz2))
  clear hi hz0 hz1 hz2
  go_wp2_with fail
  go_loopw [11, 14] (fun rv i wr => ∃ (s : Nat) (rows : List Pr) (next : List (List Int)) (fin : List Bool) (nv ev : Value), i = .int .i64 s ∧ PBase Wl Bd g0 M C wr rows next fin rv nv ev ∧ Hid (WNum a b f fs s rows next fin)) (fun _ i _ => 1025 - (intOf i).toNat)
  case atStart => exact ⟨0, [(0, 0)], [], [], .slice none 0 0, .slice none 0 0, rfl, HBL.out, HSTART⟩
  case round =>
    obtain ⟨s, rows, next, fin, nv, ev, rfl, hbase, hnum⟩ := hrel
    obtain ⟨adr0, cpr0, rfl⟩ := own_shape hbase.rws
    have HB := hid hbase
    have hmost := hnum.out.most
    clear hbase
    by_cases hs : s < rows.length
    · obtain ⟨gr, hgr, x0, x1⟩ := prs_at HB.out.rws hs
      subst hgr
      obtain ⟨r, hr⟩ : ∃ r, r = rows[s] := ⟨_, rfl⟩
      have HR := hid hr
      have hro := hnum.out.ok _ (List.getElem_mem hs)
      rw [← hr] at x0 x1 hro
      obtain ⟨rx, ry⟩ := r
      obtain ⟨x, rfl⟩ := Int.eq_ofNat_of_zero_le hro.1.1
      obtain ⟨y, rfl⟩ := Int.eq_ofNat_of_zero_le hro.2.1
      dsimp only at x0 x1 hro
      have hxa : x < a.next.length := by have := hro.1.2; omega
      have hyb : y < b.next.length := by have := hro.2.2; omega
      clear hr hro
      go_wp2_with fail
      go_quiet (fail)
      go_upto_region 14 with (at_make; refine wpList_make_full _ rfl _ _ 22 rfl wr.heap.size 3 i0 (.int .i64 0) 1 Tryd.underlying22 HII.out HZI.out.1 HZI.out.2.1 .i64 .i64 _ _ p.length rfl rfl rfl rfl (by rw [HZI.out.2.2]; omega) (by unfold maxLen; omega) (Nat.le_refl _) ?_; intro w1 hown1 hgrow1)
      rw [made_rep (.int .i64 0) p.length rfl] at hown1
      have hb1 : Below wr.heap.size wr w1 := (below_drewN (Below.refl _ _) _).grown hgrow1 (Nat.le_refl _) (fun q hq => by cases hq)
      have HMS := hid (PMid.start HB.out hown1 hb1)
      have HN := hid (show ∃ Nb, Nb = wr.heap.size from ⟨_, rfl⟩)
      obtain ⟨Wb, rfl⟩ : ∃ Wb : World, Wb = wr := ⟨_, rfl⟩
      obtain ⟨Nb, hNb⟩ : ∃ Nb, Nb = Wb.heap.size := ⟨_, rfl⟩
      rw [← hNb] at HMS ⊢
      clear hown1 hgrow1 hb1 x0 x1 HN hNb
      go_wp2_with fail
      go_loopw [11, 73] (fun rv kv wr => ∃ (k : Nat) (rows' : List Pr) (acc : List Int), k ≤ p.length ∧ kv = .int .i64 k ∧ PMid Wb g0 M Nb p.length (.slice (some ⟨gr, 0, none⟩) rows.length cpr0) wr rows' rows' acc rv ∧ Hid (acc.length = k) ∧ rows.length ≤ rows'.length ∧ rows'.length ≤ 1024 ∧ Hid ((∀ r ∈ rows', (0 ≤ r.1 ∧ r.1 < a.next.length) ∧ 0 ≤ r.2 ∧ r.2 < b.next.length) ∧ nextW (toP a b ((x : Int), (y : Int))) rows' acc (fs.drop k) = nextW (toP a b ((x : Int), (y : Int))) rows [] fs)) (fun _ kv _ => p.length - (intOf kv).toNat)
      case atStart => exact ⟨0, rows, [], Nat.zero_le _, rfl, HMS.out, hid rfl, Nat.le_refl _, hmost, hid ⟨hnum.out.ok, by rw [List.drop_zero]⟩⟩
      case round =>
        clear HMS
        obtain ⟨k, rows', acc, hk, rfl, hmid, hacc, hrl, hrm, hnx⟩ := hrel
        have hal : acc.length ≤ 256 := by have := hacc.out; omega
        obtain ⟨adr, cpr, rfl⟩ := own_shape hmid.rws
        have HM := hid hmid
        have HTU := hid (HB.out.mid hmid hbd hMl n1 n2).turn
        have HSZ := hid (show Wl.heap.size ≤ wr.heap.size from HTU.out.size)
        clear hmid
        by_cases hlt : k < p.length
        -- <cut
        · obtain ⟨gp, op, hadp, hgp, c0, c1, c2, c3⟩ := (sets_of_own (HPT.out wr HTU.out) rfl (own_max (HPT.out wr HTU.out))).at' hlt
          subst hadp
          obtain ⟨hkf, hfirst⟩ := HPF.out k hlt
          have hsok := HPO.out _ (List.getElem_mem hlt)
          have hxlt := HPX.out _ (List.getElem_mem hkf)
          have hnxc := hnx.out.2
          rw [nextW_cons (α := Pr) hkf] at hnxc
          have HNXC := hid hnxc
          generalize p[k] = se at *
          generalize fs[k] = z at *
          have hfc := first_yes hsok hfirst (wr.alloc (.cells se.cs 65)) ((HTT.out wr HTU.out).below ((Below.refl _ _).alloc (by have := (HBT.out wr HTU.out).size; omega) _))
          have HXL := hid hxlt
          clear hnxc hfirst hsok
          go_wp2_with fail
          refine hfc.mono ?_
          clear hfc c0 c1 c2 c3
          rintro e w2 ⟨rfl, hb2⟩
          have HB2 := hid (show Below wr.heap.size wr w2 from ((Below.refl _ _).alloc (Nat.le_refl _) _).trans (hb2.mono (by simp)))
          have HM2 := hid (HM.out.below HB2.out)
          have HTU2 := hid (HTU.out.trans (Turn.of_below HB2.out))
          clear hb2
          obtain ⟨q0, q1, _⟩ := dcells (HXAT.out w2 HTU2.out)
          obtain ⟨u0, u1, _⟩ := dcells (HXCT.out w2 HTU2.out)
          obtain ⟨g1, o1, g2, o2, g3, o3, n3, e3, k1, r1, hq1, i1, i2, hq2, i3, i4, i5, i6, i7, i8, i9⟩ := step_at (HAT.out w2 HTU2.out).cls (HAT.out w2 HTU2.out).next HOA.out hxa hxlt
          subst hq1 hq2
          obtain ⟨m1, l1, m2, l2, m3, l3, j3, f3, k2, r2, hq3, t1, t2, hq4, t3, t4, t5, t6, t7, t8, t9⟩ := step_at (HCT.out w2 HTU2.out).cls (HCT.out w2 HTU2.out).next HOB.out hyb hxlt
          subst hq3 hq4
          unfold maxLen at i6 t6
          have HQ1 := hid i8
          have HQ2 := hid t8
          clear i8 t8
          go_upto_region 18 with fail
          have HKP := hid (fun (W : World) (h : ∀ g, g < w2.heap.size → W.heap[g]? = w2.heap[g]?) => (show (fun W : World => W.cell? ⟨w.heap.size + 1, 0, none⟩ = some (.slice (some ⟨g1, o1, none⟩) a.cls.length cpa) ∧ W.cell? ⟨w.heap.size + 1, 1, none⟩ = some (.slice (some ⟨g2, o2, none⟩) a.next.length cpb) ∧ W.cell? ⟨w.heap.size + 1 + 1, 0, none⟩ = some (.slice (some ⟨m1, l1, none⟩) b.cls.length cpa') ∧ W.cell? ⟨w.heap.size + 1 + 1, 1, none⟩ = some (.slice (some ⟨m2, l2, none⟩) b.next.length cpb') ∧ W.cell? ⟨g1, o1 + z, none⟩ = some (.int .i64 k1) ∧ W.cell? ⟨g2, o2 + x, none⟩ = some (.slice (some ⟨g3, o3, none⟩) n3 e3) ∧ W.cell? ⟨g3, o3 + k1, none⟩ = some (.int .i64 r1) ∧ W.cell? ⟨m1, l1 + z, none⟩ = some (.int .i64 k2) ∧ W.cell? ⟨m2, l2 + y, none⟩ = some (.slice (some ⟨m3, l3, none⟩) j3 f3) ∧ W.cell? ⟨m3, l3 + k2, none⟩ = some (.int .i64 r2)) W from ⟨(cell_heap (h _ (cell_in q0))).trans q0, (cell_heap (h _ (cell_in q1))).trans q1, (cell_heap (h _ (cell_in u0))).trans u0, (cell_heap (h _ (cell_in u1))).trans u1, (cell_heap (h _ (cell_in i2))).trans i2, (cell_heap (h _ (cell_in i4))).trans i4, (cell_heap (h _ (cell_in i7))).trans i7, (cell_heap (h _ (cell_in t2))).trans t2, (cell_heap (h _ (cell_in t4))).trans t4, (cell_heap (h _ (cell_in t7))).trans t7⟩))
          have HS := hid (HKP.out w2.drew (fun _ _ => rfl))
          clear q0 q1 u0 u1 i2 i4 i7 t2 t4 t7
          refine wp_region_held_drew (S := (fun W : World => W.cell? ⟨w.heap.size + 1, 0, none⟩ = some (.slice (some ⟨g1, o1, none⟩) a.cls.length cpa) ∧ W.cell? ⟨w.heap.size + 1, 1, none⟩ = some (.slice (some ⟨g2, o2, none⟩) a.next.length cpb) ∧ W.cell? ⟨w.heap.size + 1 + 1, 0, none⟩ = some (.slice (some ⟨m1, l1, none⟩) b.cls.length cpa') ∧ W.cell? ⟨w.heap.size + 1 + 1, 1, none⟩ = some (.slice (some ⟨m2, l2, none⟩) b.next.length cpb') ∧ W.cell? ⟨g1, o1 + z, none⟩ = some (.int .i64 k1) ∧ W.cell? ⟨g2, o2 + x, none⟩ = some (.slice (some ⟨g3, o3, none⟩) n3 e3) ∧ W.cell? ⟨g3, o3 + k1, none⟩ = some (.int .i64 r1) ∧ W.cell? ⟨m1, l1 + z, none⟩ = some (.int .i64 k2) ∧ W.cell? ⟨m2, l2 + y, none⟩ = some (.slice (some ⟨m3, l3, none⟩) j3 f3) ∧ W.cell? ⟨m3, l3 + k2, none⟩ = some (.int .i64 r2))) (by kernel_rfl) HS.out (fun _ => ?_)
          refine wpAnyH_take (i := 0) (v := .pointer (some ⟨w.heap.size + 1, 1, none⟩)) rfl (by kernel_rfl) (by kernel_rfl) (by kernel_rfl) (fun _ _ _ h => h) (Or.inl ⟨by rfl, fun w hS => by go_simp⟩) HS.out ?_
          simp only [Act.put, List.getElem_toArray, List.getElem_cons_zero, List.setIfInBounds_toArray, List.set_cons_zero, List.set_cons_succ]
          refine wpAnyH_take (i := 1) (v := .slice (some ⟨g2, o2, none⟩) a.next.length cpb) rfl (by kernel_rfl) (by kernel_rfl) (by kernel_rfl) (fun _ _ _ h => h) (Or.inl ⟨by rfl, fun w hS => by have k1 := hS.2.1; go_simp⟩) HS.out ?_
          simp only [Act.put, List.getElem_toArray, List.getElem_cons_zero, List.getElem_cons_succ, List.setIfInBounds_toArray, List.set_cons_zero, List.set_cons_succ]
          refine wpAnyH_take (i := 2) (v := .int .i64 x) rfl (by kernel_rfl) (by kernel_rfl) (by kernel_rfl) (fun _ _ _ h => h) (Or.inl ⟨by rfl, fun w hS => by go_simp⟩) HS.out ?_
          simp only [Act.put, List.getElem_toArray, List.getElem_cons_zero, List.getElem_cons_succ, List.setIfInBounds_toArray, List.set_cons_zero, List.set_cons_succ]
          refine wpAnyH_take (i := 3) (v := .pointer (some ⟨g2, o2 + x, none⟩)) rfl (by kernel_rfl) (by kernel_rfl) (by kernel_rfl) (fun _ _ _ h => h) (Or.inl ⟨by rfl, fun w hS => by go_simp⟩) HS.out ?_
          simp only [Act.put, List.getElem_toArray, List.getElem_cons_zero, List.getElem_cons_succ, List.setIfInBounds_toArray, List.set_cons_zero, List.set_cons_succ]
          refine wpAnyH_take (i := 4) (v := .slice (some ⟨g3, o3, none⟩) n3 e3) rfl (by kernel_rfl) (by kernel_rfl) (by kernel_rfl) (fun _ _ _ h => h) (Or.inl ⟨by rfl, fun w hS => by have k5 := hS.2.2.2.2.2.1; go_simp⟩) HS.out ?_
          simp only [Act.put, List.getElem_toArray, List.getElem_cons_zero, List.getElem_cons_succ, List.setIfInBounds_toArray, List.set_cons_zero, List.set_cons_succ]
          refine wpAnyH_take (i := 5) (v := .pointer (some ⟨w.heap.size + 1, 0, none⟩)) rfl (by kernel_rfl) (by kernel_rfl) (by kernel_rfl) (fun _ _ _ h => h) (Or.inl ⟨by rfl, fun w hS => by go_simp⟩) HS.out ?_
          simp only [Act.put, List.getElem_toArray, List.getElem_cons_zero, List.getElem_cons_succ, List.setIfInBounds_toArray, List.set_cons_zero, List.set_cons_succ]
          refine wpAnyH_take (i := 6) (v := .slice (some ⟨g1, o1, none⟩) a.cls.length cpa) rfl (by kernel_rfl) (by kernel_rfl) (by kernel_rfl) (fun _ _ _ h => h) (Or.inl ⟨by rfl, fun w hS => by have k0 := hS.1; go_simp⟩) HS.out ?_
          simp only [Act.put, List.getElem_toArray, List.getElem_cons_zero, List.getElem_cons_succ, List.setIfInBounds_toArray, List.set_cons_zero, List.set_cons_succ]
          refine wpAnyH_take (i := 7) (v := .int .u8 (z : Int)) rfl (by kernel_rfl) (by kernel_rfl) (by kernel_rfl) (fun _ _ _ h => h) (Or.inl ⟨by rfl, fun w hS => by go_simp⟩) HS.out ?_
          simp only [Act.put, List.getElem_toArray, List.getElem_cons_zero, List.getElem_cons_succ, List.setIfInBounds_toArray, List.set_cons_zero, List.set_cons_succ]
          refine wpAnyH_take (i := 8) (v := .pointer (some ⟨g1, o1 + z, none⟩)) rfl (by kernel_rfl) (by kernel_rfl) (by kernel_rfl) (fun _ _ _ h => h) (Or.inl ⟨by rfl, fun w hS => by go_simp⟩) HS.out ?_
          simp only [Act.put, List.getElem_toArray, List.getElem_cons_zero, List.getElem_cons_succ, List.setIfInBounds_toArray, List.set_cons_zero, List.set_cons_succ]
          refine wpAnyH_take (i := 9) (v := .int .i64 k1) rfl (by kernel_rfl) (by kernel_rfl) (by kernel_rfl) (fun _ _ _ h => h) (Or.inl ⟨by rfl, fun w hS => by have k4 := hS.2.2.2.2.1; go_simp⟩) HS.out ?_
          simp only [Act.put, List.getElem_toArray, List.getElem_cons_zero, List.getElem_cons_succ, List.setIfInBounds_toArray, List.set_cons_zero, List.set_cons_succ]
          refine wpAnyH_take (i := 10) (v := .pointer (some ⟨g3, o3 + k1, none⟩)) rfl (by kernel_rfl) (by kernel_rfl) (by kernel_rfl) (fun _ _ _ h => h) (Or.inl ⟨by rfl, fun w hS => by go_simp⟩) HS.out ?_
          simp only [Act.put, List.getElem_toArray, List.getElem_cons_zero, List.getElem_cons_succ, List.setIfInBounds_toArray, List.set_cons_zero, List.set_cons_succ]
          refine wpAnyH_take (i := 11) (v := .int .i64 r1) rfl (by kernel_rfl) (by kernel_rfl) (by kernel_rfl) (fun _ _ _ h => h) (Or.inl ⟨by rfl, fun w hS => by have k6 := hS.2.2.2.2.2.2.1; go_simp⟩) HS.out ?_
          simp only [Act.put, List.getElem_toArray, List.getElem_cons_zero, List.getElem_cons_succ, List.setIfInBounds_toArray, List.set_cons_zero, List.set_cons_succ]
          refine wpAnyH_take (i := 12) (v := .pointer (some ⟨w.heap.size + 1 + 1, 1, none⟩)) rfl (by kernel_rfl) (by kernel_rfl) (by kernel_rfl) (fun _ _ _ h => h) (Or.inl ⟨by rfl, fun w hS => by go_simp⟩) HS.out ?_
          simp only [Act.put, List.getElem_toArray, List.getElem_cons_zero, List.getElem_cons_succ, List.setIfInBounds_toArray, List.set_cons_zero, List.set_cons_succ]
          refine wpAnyH_take (i := 13) (v := .slice (some ⟨m2, l2, none⟩) b.next.length cpb') rfl (by kernel_rfl) (by kernel_rfl) (by kernel_rfl) (fun _ _ _ h => h) (Or.inl ⟨by rfl, fun w hS => by have k3 := hS.2.2.2.1; go_simp⟩) HS.out ?_
          simp only [Act.put, List.getElem_toArray, List.getElem_cons_zero, List.getElem_cons_succ, List.setIfInBounds_toArray, List.set_cons_zero, List.set_cons_succ]
          refine wpAnyH_take (i := 14) (v := .int .i64 y) rfl (by kernel_rfl) (by kernel_rfl) (by kernel_rfl) (fun _ _ _ h => h) (Or.inl ⟨by rfl, fun w hS => by go_simp⟩) HS.out ?_
          simp only [Act.put, List.getElem_toArray, List.getElem_cons_zero, List.getElem_cons_succ, List.setIfInBounds_toArray, List.set_cons_zero, List.set_cons_succ]
          refine wpAnyH_take (i := 15) (v := .pointer (some ⟨m2, l2 + y, none⟩)) rfl (by kernel_rfl) (by kernel_rfl) (by kernel_rfl) (fun _ _ _ h => h) (Or.inl ⟨by rfl, fun w hS => by go_simp⟩) HS.out ?_
          simp only [Act.put, List.getElem_toArray, List.getElem_cons_zero, List.getElem_cons_succ, List.setIfInBounds_toArray, List.set_cons_zero, List.set_cons_succ]
          refine wpAnyH_take (i := 16) (v := .slice (some ⟨m3, l3, none⟩) j3 f3) rfl (by kernel_rfl) (by kernel_rfl) (by kernel_rfl) (fun _ _ _ h => h) (Or.inl ⟨by rfl, fun w hS => by have k8 := hS.2.2.2.2.2.2.2.2.1; go_simp⟩) HS.out ?_
          simp only [Act.put, List.getElem_toArray, List.getElem_cons_zero, List.getElem_cons_succ, List.setIfInBounds_toArray, List.set_cons_zero, List.set_cons_succ]
          refine wpAnyH_take (i := 17) (v := .pointer (some ⟨w.heap.size + 1 + 1, 0, none⟩)) rfl (by kernel_rfl) (by kernel_rfl) (by kernel_rfl) (fun _ _ _ h => h) (Or.inl ⟨by rfl, fun w hS => by go_simp⟩) HS.out ?_
          simp only [Act.put, List.getElem_toArray, List.getElem_cons_zero, List.getElem_cons_succ, List.setIfInBounds_toArray, List.set_cons_zero, List.set_cons_succ]
          refine wpAnyH_take (i := 18) (v := .slice (some ⟨m1, l1, none⟩) b.cls.length cpa') rfl (by kernel_rfl) (by kernel_rfl) (by kernel_rfl) (fun _ _ _ h => h) (Or.inl ⟨by rfl, fun w hS => by have k2 := hS.2.2.1; go_simp⟩) HS.out ?_
          simp only [Act.put, List.getElem_toArray, List.getElem_cons_zero, List.getElem_cons_succ, List.setIfInBounds_toArray, List.set_cons_zero, List.set_cons_succ]
          refine wpAnyH_take (i := 19) (v := .int .u8 (z : Int)) rfl (by kernel_rfl) (by kernel_rfl) (by kernel_rfl) (fun _ _ _ h => h) (Or.inl ⟨by rfl, fun w hS => by go_simp⟩) HS.out ?_
          simp only [Act.put, List.getElem_toArray, List.getElem_cons_zero, List.getElem_cons_succ, List.setIfInBounds_toArray, List.set_cons_zero, List.set_cons_succ]
          refine wpAnyH_take (i := 20) (v := .pointer (some ⟨m1, l1 + z, none⟩)) rfl (by kernel_rfl) (by kernel_rfl) (by kernel_rfl) (fun _ _ _ h => h) (Or.inl ⟨by rfl, fun w hS => by go_simp⟩) HS.out ?_
          simp only [Act.put, List.getElem_toArray, List.getElem_cons_zero, List.getElem_cons_succ, List.setIfInBounds_toArray, List.set_cons_zero, List.set_cons_succ]
          refine wpAnyH_take (i := 21) (v := .int .i64 k2) rfl (by kernel_rfl) (by kernel_rfl) (by kernel_rfl) (fun _ _ _ h => h) (Or.inl ⟨by rfl, fun w hS => by have k7 := hS.2.2.2.2.2.2.2.1; go_simp⟩) HS.out ?_
          simp only [Act.put, List.getElem_toArray, List.getElem_cons_zero, List.getElem_cons_succ, List.setIfInBounds_toArray, List.set_cons_zero, List.set_cons_succ]
          refine wpAnyH_take (i := 22) (v := .pointer (some ⟨m3, l3 + k2, none⟩)) rfl (by kernel_rfl) (by kernel_rfl) (by kernel_rfl) (fun _ _ _ h => h) (Or.inl ⟨by rfl, fun w hS => by go_simp⟩) HS.out ?_
          simp only [Act.put, List.getElem_toArray, List.getElem_cons_zero, List.getElem_cons_succ, List.setIfInBounds_toArray, List.set_cons_zero, List.set_cons_succ]
          refine wpAnyH_take (i := 23) (v := .int .i64 r2) rfl (by kernel_rfl) (by kernel_rfl) (by kernel_rfl) (fun _ _ _ h => h) (Or.inl ⟨by rfl, fun w hS => by have k9 := hS.2.2.2.2.2.2.2.2.2; go_simp⟩) HS.out ?_
          simp only [Act.put, List.getElem_toArray, List.getElem_cons_zero, List.getElem_cons_succ, List.setIfInBounds_toArray, List.set_cons_zero, List.set_cons_succ]
          refine wpAnyH_take (i := 24) (v := .agg #[.int .i64 r1, .int .i64 r2]) rfl (by kernel_rfl) (by kernel_rfl) (by kernel_rfl) (fun _ _ _ h => h) (Or.inl ⟨by rfl, fun w hS => by go_simp⟩) HS.out ?_
          simp only [Act.put, List.getElem_toArray, List.getElem_cons_zero, List.getElem_cons_succ, List.setIfInBounds_toArray, List.set_cons_zero, List.set_cons_succ]
          refine wpAnyH_ready (rs := [25]) (by kernel_rfl) (by simp) (AllReadyH.cons rfl (fun K hK => ?_) AllReadyH.nil)
          go_simp
          refine hK.out _ _ (HKP.out _ (fun g hg => alloc_old hg)) (fun _ => ?_)
          clear hK K
          have hnb : ((w2.alloc (.cells #[.int .i64 0, .int .i64 0] 97)).drew).heap[w2.heap.size]? = some (.cells #[.int .i64 0, .int .i64 0] 97 (0, 0)) := heap_alloc_new _ _
          have HB3 := hid (show Below w2.heap.size w2 ((w2.alloc (.cells #[.int .i64 0, .int .i64 0] 97)).drew) from ((Below.refl _ _).alloc (Nat.le_refl _) _).drew)
          have HS3 := hid (HKP.out ((w2.alloc (.cells #[.int .i64 0, .int .i64 0] 97)).drew) (fun g hg => alloc_old hg))
          generalize (w2.alloc (.cells #[.int .i64 0, .int .i64 0] 97)).drew = w3 at *
          have d0 := cell_blk (i := 0) hnb rfl
          have d1 := cell_blk (i := 1) hnb rfl
          have d2 := free_box (i := 0) hnb
          have d3 := free_box (i := 1) hnb
          refine wpAnyH_ready (rs := [26]) (by kernel_rfl) (by simp) (AllReadyH.cons rfl (fun K hK => ?_) AllReadyH.nil)
          go_simp
          have hnb4 := two_set (.int .i64 (r1 : Int)) (.int .i64 (r2 : Int)) hnb
          have HB24 := hid (show Below w2.heap.size w2 ((w3.setCell ⟨w2.heap.size, 0, none⟩ (.int .i64 (r1 : Int))).setCell ⟨w2.heap.size, 1, none⟩ (.int .i64 (r2 : Int))) from (HB3.out.setCell (Nat.le_refl _) _).setCell (Nat.le_refl _) _)
          refine hK.out _ _ (HKP.out _ (fun g hg => HB24.out.block g hg)) (fun _ => ?_)
          clear hK K d0 d1 d2 d3 hnb
          generalize ((w3.setCell ⟨w2.heap.size, 0, none⟩ (.int .i64 (r1 : Int))).setCell ⟨w2.heap.size, 1, none⟩ (.int .i64 (r2 : Int))) = w4 at *
          refine wpAnyH_done (by kernel_rfl) ?_ _
          have HM4 := hid (HM2.out.below HB24.out)
          have HTU4 := hid (HTU2.out.trans (Turn.of_below HB24.out))
          have HTO := hid (show toP a b ((x : Int), (y : Int)) z = ((r1 : Int), (r2 : Int)) by unfold toP; rw [HQ1.out, HQ2.out])
          have hnxc := HNXC.out
          rw [HTO.out] at hnxc
          obtain ⟨kl, hkl⟩ := keyOf_pr (r := ((r1 : Int), (r2 : Int))) (by have := HN1.out; exact ⟨⟨by show (0 : Int) ≤ (r1 : Int); omega, by show (r1 : Int) ≤ _; omega⟩, by show (0 : Int) ≤ (r2 : Int); omega, by show (r2 : Int) ≤ _; omega⟩)
          have HKL := hid hkl
          have d0 := cell_blk (i := 0) hnb4 rfl
          have d1 := cell_blk (i := 1) hnb4 rfl
          have hszb : Wb.heap.size ≤ w4.heap.size := HM4.out.turn.size
          have hsz2 : w2.heap.size < w4.heap.size := lt_of_heap hnb4
          have hac : acc.length < p.length := by have := hacc.out; omega
          have HNB4 := hid hnb4
          clear HS HS3 HKP HB3 HM2 HTU2 hkl hnb4
          by_cases hmem : ((r1 : Int), (r2 : Int)) ∈ rows'
          · rw [if_pos hmem] at hnxc
            have HNX2 := hid hnxc
            have HMEM := hid hmem
            have hidx := idx_lt (α := Pr) hmem
            obtain ⟨yv, hy0⟩ := own_cell HM4.out.nx hlt
            have hy1 := own_free (i := k) HM4.out.nx
            have hki : (k : Int) < (p.length : Int) := by omega
            clear hnxc hmem
            go_wp2_with (at_lookup; refine wpList_place_yes _ rfl _ _ 125 rfl 97 3 prKey Tryd.underlying125 Tryd.underlying3 (mapPlaces _) Pr.v M rows' rfl HM4.out.keys ((r1 : Int), (r2 : Int)) kl rfl HKL.out HMEM.out ?_)
            refine And.intro ?_ ?_
            · have HPU := HM4.out.put hac
              simp only [hacc.out] at HPU
              exact ⟨k + 1, rows', acc ++ [_], by omega, by go_num, HPU _, hid (by rw [List.length_append, hacc.out]; rfl), hrl, hrm, hid ⟨hnx.out.1, HNX2.out⟩⟩
            · simp [intOf]; omega
          · rw [if_neg hmem] at hnxc
            have HMEM := hid hmem
            by_cases hbig : 1024 ≤ rows'.length
            · rw [if_pos hbig] at hnxc
              have HXE := hid (show xr = .error 2 by
                have h1 := hnum.out.bad hs (e := 2) (by rw [← HR.out]; exact HNXC.out.symm.trans (by rw [HTO.out, if_neg HMEM.out, if_pos hbig]))
                rw [HXR.out, h1])
              have hbig' : (1024 : Int) ≤ (rows'.length : Int) := by omega
              have HRES := hid (HRT.out w4 HTU4.out)
              have HBW := hid (HBT.out w4 HTU4.out)
              clear hnxc hbig hmem
              go_wp2_with (first | (at_lookup; refine wpList_place_no _ rfl _ _ 125 rfl 97 3 prKey Tryd.underlying125 Tryd.underlying3 (mapPlaces _) Pr.v M rows' rfl HM4.out.keys ((r1 : Int), (r2 : Int)) kl rfl HKL.out HMEM.out ?_) | (refine wpList_store_same rfl 30 (.tmp 6) (.tmp 120) rfl 3 infoDfa (w.heap.size + 1 + 1 + 1) 30 _ HRES.out rfl (by rfl) (by rfl) rfl ?_))
              refine bodyPost_ret (results_cell_one (ty := 30) rfl _ _ (w.heap.size + 1 + 1 + 1) 30 _ (0, 0) _ rfl HRES.out Tryd.underlying30 rfl (by kernel_rfl)) rfl ?_
              rw [HXE.out]
              exact ⟨rfl, HBW.out⟩
            · rw [if_neg hbig] at hnxc
              have HNX2 := hid hnxc
              have hbig' : ¬ (1024 : Int) ≤ (rows'.length : Int) := by omega
              have hml : rows'.length < maxLen := by unfold maxLen; omega
              clear hnxc hmem
              go_upto_region 25 with (first | (at_lookup; refine wpList_place_no _ rfl _ _ 125 rfl 97 3 prKey Tryd.underlying125 Tryd.underlying3 (mapPlaces _) Pr.v M rows' rfl HM4.out.keys ((r1 : Int), (r2 : Int)) kl rfl HKL.out HMEM.out ?_) | (at_mapUpdate; refine wpList_place_put _ rfl _ _ _ 125 rfl 97 3 prKey Tryd.underlying125 Tryd.underlying3 Pr.v prV_inj M rows' rfl HM4.out.keys hml ((r1 : Int), (r2 : Int)) kl rfl rfl HKL.out HMEM.out ?_; intro w5 hk5 ht5; have HK5 := hid hk5; have HT5 := hid ht5; clear hk5 ht5))
              have HM5 := hid (HM4.out.addKey HT5.out HK5.out)
              have hMw : w2.heap.size ≠ M := fun e => by have := HM.out.keys.lt; have := HB2.out.size; omega
              have hnb5 := (turned_blk HT5.out hMw hsz2).trans HNB4.out
              have hsz5 : w4.heap.size ≤ w5.heap.size := HT5.out.grown.size
              have hszb5 : Wb.heap.size ≤ w5.heap.size := by omega
              have hszg : g0 ≤ w5.heap.size := by have := HTU4.out.size; omega
              have d0 := cell_blk (i := 0) hnb5 rfl
              have d1 := cell_blk (i := 1) hnb5 rfl
              clear HNB4
              go_upto_region 26 with (at_builtin; refine wpList_append_own_at _ rfl _ _ 98 rfl g0 97 iP (.agg #[.int .i64 0, .int .i64 0]) 2 16 Tryd.underlying98 HIP.out HZP.out.1 HZP.out.2.1 HZP.out.2.2 rfl (by decide) (.slice adr rows'.length cpr) rows'.length (flatP rows') (by rfl) (HM5.out.rws.alloc _) ⟨w5.heap.size, 0, none⟩ 1 1 [.int .i64 (r1 : Int), .int .i64 (r2 : Int)] (by rfl) rfl (own_two (heap_alloc_new _ _)) (two_one _ _) (by unfold maxLen; omega) (by omega) (by simp; omega) ?_; intro rv' w6 ho6 hg6 _ hat6; obtain ⟨adq, cpq, rfl⟩ := own_shape ho6; have HO6 := hid ho6; have HG6 := hid hg6; have HAT6 := hid hat6; clear ho6 hg6 hat6)
              have HM6 := hid (HM5.out.addRow (r := ((r1 : Int), (r2 : Int))) HO6.out HG6.out HAT6.out)
              clear d0 d1 hnb5
              obtain ⟨yv, hy0⟩ := own_cell HM6.out.nx hlt
              have hy1 := own_free (i := k) HM6.out.nx
              have hki : (k : Int) < (p.length : Int) := by omega
              go_wp2_with fail
              refine And.intro ?_ ?_
              · have HPU := HM6.out.put hac (rows'.length : Int)
                rw [hacc.out] at HPU
                exact ⟨k + 1, rows' ++ [((r1 : Int), (r2 : Int))], acc ++ [_], by omega, by go_num, HPU, hid (by rw [List.length_append, hacc.out]; rfl), by simp; omega, by simp; omega, hid ⟨fun r hr => by
                  rcases List.mem_append.1 hr with hr | hr
                  · exact hnx.out.1 r hr
                  · rw [List.mem_singleton.1 hr]
                    exact ⟨⟨by show (0 : Int) ≤ (r1 : Int); omega, by show (r1 : Int) < _; omega⟩, by show (0 : Int) ≤ (r2 : Int); omega, by show (r2 : Int) < _; omega⟩, HNX2.out⟩⟩
              · simp [intOf]; omega
        -- cut>
        · obtain rfl : k = p.length := by omega
          have hnx3 := hnx.out.2
          rw [show fs.drop p.length = [] by rw [HPL.out, List.drop_length], nextW] at hnx3
          have HGOOD := hid (hnum.out.good hs (by rw [← HR.out]; exact hnx3.symm) hrm hrl hnx.out.1)
          have HB3 := hid (HB.out.mid HM.out hbd hMl n1 n2)
          have HNX := hid (show OwnInts wr Wl.heap.size (.slice (some ⟨Nb, 0, none⟩) p.length p.length) acc by
            have h := HM.out.nx
            rw [show acc ++ List.replicate (p.length - acc.length) 0 = acc by rw [hacc.out, Nat.sub_self]; simp] at h
            unfold OwnInts
            rw [hacc.out]
            exact own_mono h HB.out.turn.size)
          obtain ⟨vs, hvs, hvl, hvr⟩ := HB3.out.nxt.ex
          obtain ⟨adn, cpn, rfl⟩ := own_shape hvs
          obtain ⟨ade, cpe, rfl⟩ := own_shape HB3.out.fins
          have HVS := hid hvs
          have HVL := hid hvl
          have HVR := hid hvr
          have hvm : vs.length ≤ 1024 := by have h1 := hnum.out.len; omega
          have hfm : fin.length ≤ 1024 := by have h1 := hnum.out.flen; omega
          have c1 := cell_blk (i := 1) HB3.out.dbox rfl
          clear hnx3 hvs hvl hvr
          go_upto_region 29 with (at_builtin; refine wpList_append_own_at _ rfl _ _ 27 rfl Wl.heap.size 22 iR (.slice none 0 0) 1 24 Tryd.underlying27 HIR.out HZR.out.1 HZR.out.2.1 HZR.out.2.2 rfl (by decide) (.slice adn vs.length cpn) vs.length vs (by rfl) (HVS.out.alloc _) ⟨wr.heap.size, 0, none⟩ 1 1 [.slice (some ⟨Nb, 0, none⟩) p.length p.length] (by rfl) rfl (cell_one_new _ _ _) (one_cell_one rfl) (by unfold maxLen; omega) (by omega) (by have := HSZ.out; simp; omega) ?_; intro nv' w5 ho5 hg5 _ hat5; obtain ⟨adn', cpn', rfl⟩ := own_shape ho5; have HO5 := hid ho5; have HG5 := hid hg5; have hd5 := HB3.out.dbox2 hbd HVS.out hg5; have x1 := cell_blk (i := 1) hd5 rfl; have x2 := free_box (i := 1) hd5; clear ho5 hg5 hat5 hd5)
          have HB5 := hid (HB3.out.addNext hbd hMl hgl n1 n2 HVS.out HVL.out HVR.out (l := acc) HNX.out HO5.out HG5.out)
          generalize w5.setCell ⟨Bd, 1, none⟩ (.slice adn' (vs.length + 1) cpn') = w6 at *
          have HT6 := hid HB5.out.turn
          have hax : x < a.fin.length := by have := HN1.out; omega
          have hby : y < b.fin.length := by have := HN1.out; omega
          obtain ⟨ga, oa, hga0, hga1, v4⟩ := bools_at (HAT.out w6 HT6.out).fin hax
          obtain ⟨gb, ob, hgb0, hgb1, v5⟩ := bools_at (HCT.out w6 HT6.out).fin hby
          subst hga0 hgb0
          have hga : ga < Wl.heap.size := by have := HF.out ga hga1; omega
          have hgb : gb < Wl.heap.size := by have := HG.out gb hgb1; omega
          have v0 := cell_blk (i := 2) HB5.out.dbox rfl
          have v1 := cell_blk (i := 0) (HJT.out w6 HT6.out) rfl
          have v2 := cell_blk (i := 2) (HXAT.out w6 HT6.out) rfl
          have v3 := cell_blk (i := 2) (HXCT.out w6 HT6.out) rfl
          have HEND := hid (show endP f a b rows[s] = f a.fin[x] b.fin[y] by
            rw [← HR.out]
            unfold endP
            rw [List.getD_eq_getElem?_getD, List.getD_eq_getElem?_getD, Int.toNat_natCast, Int.toNat_natCast, List.getElem?_eq_getElem hax, List.getElem?_eq_getElem hby]
            rfl)
          have hgd := HGOOD.out
          rw [HEND.out] at hgd
          have HGD := hid hgd
          generalize a.fin[x] = fx at *
          generalize b.fin[y] = fy at *
          clear x1 x2 c1 hgd
          have HKQ := hid (fun (W : World) (h : ∀ g, g < Wl.heap.size → W.heap[g]? = w6.heap[g]?) => (show (fun W : World => W.cell? ⟨Bd, 2, none⟩ = some (.slice ade fin.length cpe) ∧ W.cell? ⟨w.heap.size, 0, none⟩ = some (.func (.func fv) #[] #[]) ∧ W.cell? ⟨w.heap.size + 1, 2, none⟩ = some (.slice (some ⟨ga, oa, none⟩) a.fin.length cpc) ∧ W.cell? ⟨w.heap.size + 1 + 1, 2, none⟩ = some (.slice (some ⟨gb, ob, none⟩) b.fin.length cpc') ∧ W.cell? ⟨ga, oa + x, none⟩ = some (.bool fx) ∧ W.cell? ⟨gb, ob + y, none⟩ = some (.bool fy)) W from ⟨(cell_heap (h _ hbd)).trans v0, (cell_heap (h _ (by omega))).trans v1, (cell_heap (h _ (by omega))).trans v2, (cell_heap (h _ (by omega))).trans v3, (cell_heap (h _ hga)).trans v4, (cell_heap (h _ hgb)).trans v5⟩))
          have HB6 := hid (HB5.out.below ((Below.refl _ w6).drew))
          have HS := hid (HKQ.out w6.drew (fun _ _ => rfl))
          refine Till.start (S := (fun W : World => W.cell? ⟨Bd, 2, none⟩ = some (.slice ade fin.length cpe) ∧ W.cell? ⟨w.heap.size, 0, none⟩ = some (.func (.func fv) #[] #[]) ∧ W.cell? ⟨w.heap.size + 1, 2, none⟩ = some (.slice (some ⟨ga, oa, none⟩) a.fin.length cpc) ∧ W.cell? ⟨w.heap.size + 1 + 1, 2, none⟩ = some (.slice (some ⟨gb, ob, none⟩) b.fin.length cpc') ∧ W.cell? ⟨ga, oa + x, none⟩ = some (.bool fx) ∧ W.cell? ⟨gb, ob + y, none⟩ = some (.bool fy))) (n := 18) (by kernel_rfl) ?_
          have hkq0 : ∀ g, g < Wl.heap.size → w6.drew.heap[g]? = w6.heap[g]? := fun _ _ => rfl
          have HK0 := hid hkq0
          clear v0 v1 v2 v3 v4 v5 hkq0
          generalize w6.drew = w6d at *
          refine Till.take (i := 0) (v := .pointer (some ⟨Bd, 2, none⟩)) rfl (by kernel_rfl) (fun _ _ _ h => h) (Or.inl ⟨by rfl, fun w hS => by go_simp⟩) HS.out ?_
          simp only [Act.put, List.getElem_toArray, List.getElem_cons_zero, List.setIfInBounds_toArray, List.set_cons_zero, List.set_cons_succ]
          refine Till.take (i := 1) (v := .slice ade fin.length cpe) rfl (by kernel_rfl) (fun _ _ _ h => h) (Or.inl ⟨by rfl, fun w hS => by have k0 := hS.1; go_simp⟩) HS.out ?_
          simp only [Act.put, List.getElem_toArray, List.getElem_cons_zero, List.getElem_cons_succ, List.setIfInBounds_toArray, List.set_cons_zero, List.set_cons_succ]
          refine Till.take (i := 2) (v := .pointer (some ⟨w.heap.size, 0, none⟩)) rfl (by kernel_rfl) (fun _ _ _ h => h) (Or.inl ⟨by rfl, fun w hS => by go_simp⟩) HS.out ?_
          simp only [Act.put, List.getElem_toArray, List.getElem_cons_zero, List.getElem_cons_succ, List.setIfInBounds_toArray, List.set_cons_zero, List.set_cons_succ]
          refine Till.take (i := 3) (v := .func (.func fv) #[] #[]) rfl (by kernel_rfl) (fun _ _ _ h => h) (Or.inl ⟨by rfl, fun w hS => by have k1 := hS.2.1; go_simp⟩) HS.out ?_
          simp only [Act.put, List.getElem_toArray, List.getElem_cons_zero, List.getElem_cons_succ, List.setIfInBounds_toArray, List.set_cons_zero, List.set_cons_succ]
          refine Till.take (i := 4) (v := .pointer (some ⟨w.heap.size + 1, 2, none⟩)) rfl (by kernel_rfl) (fun _ _ _ h => h) (Or.inl ⟨by rfl, fun w hS => by go_simp⟩) HS.out ?_
          simp only [Act.put, List.getElem_toArray, List.getElem_cons_zero, List.getElem_cons_succ, List.setIfInBounds_toArray, List.set_cons_zero, List.set_cons_succ]
          refine Till.take (i := 5) (v := .slice (some ⟨ga, oa, none⟩) a.fin.length cpc) rfl (by kernel_rfl) (fun _ _ _ h => h) (Or.inl ⟨by rfl, fun w hS => by have k2 := hS.2.2.1; go_simp⟩) HS.out ?_
          simp only [Act.put, List.getElem_toArray, List.getElem_cons_zero, List.getElem_cons_succ, List.setIfInBounds_toArray, List.set_cons_zero, List.set_cons_succ]
          refine Till.take (i := 6) (v := .int .i64 x) rfl (by kernel_rfl) (fun _ _ _ h => h) (Or.inl ⟨by rfl, fun w hS => by go_simp⟩) HS.out ?_
          simp only [Act.put, List.getElem_toArray, List.getElem_cons_zero, List.getElem_cons_succ, List.setIfInBounds_toArray, List.set_cons_zero, List.set_cons_succ]
          refine Till.take (i := 7) (v := .pointer (some ⟨ga, oa + x, none⟩)) rfl (by kernel_rfl) (fun _ _ _ h => h) (Or.inl ⟨by rfl, fun w hS => by go_simp⟩) HS.out ?_
          simp only [Act.put, List.getElem_toArray, List.getElem_cons_zero, List.getElem_cons_succ, List.setIfInBounds_toArray, List.set_cons_zero, List.set_cons_succ]
          refine Till.take (i := 8) (v := .bool fx) rfl (by kernel_rfl) (fun _ _ _ h => h) (Or.inl ⟨by rfl, fun w hS => by have k4 := hS.2.2.2.2.1; go_simp⟩) HS.out ?_
          simp only [Act.put, List.getElem_toArray, List.getElem_cons_zero, List.getElem_cons_succ, List.setIfInBounds_toArray, List.set_cons_zero, List.set_cons_succ]
          refine Till.take (i := 9) (v := .pointer (some ⟨w.heap.size + 1 + 1, 2, none⟩)) rfl (by kernel_rfl) (fun _ _ _ h => h) (Or.inl ⟨by rfl, fun w hS => by go_simp⟩) HS.out ?_
          simp only [Act.put, List.getElem_toArray, List.getElem_cons_zero, List.getElem_cons_succ, List.setIfInBounds_toArray, List.set_cons_zero, List.set_cons_succ]
          refine Till.take (i := 10) (v := .slice (some ⟨gb, ob, none⟩) b.fin.length cpc') rfl (by kernel_rfl) (fun _ _ _ h => h) (Or.inl ⟨by rfl, fun w hS => by have k3 := hS.2.2.2.1; go_simp⟩) HS.out ?_
          simp only [Act.put, List.getElem_toArray, List.getElem_cons_zero, List.getElem_cons_succ, List.setIfInBounds_toArray, List.set_cons_zero, List.set_cons_succ]
          refine Till.take (i := 11) (v := .int .i64 y) rfl (by kernel_rfl) (fun _ _ _ h => h) (Or.inl ⟨by rfl, fun w hS => by go_simp⟩) HS.out ?_
          simp only [Act.put, List.getElem_toArray, List.getElem_cons_zero, List.getElem_cons_succ, List.setIfInBounds_toArray, List.set_cons_zero, List.set_cons_succ]
          refine Till.take (i := 12) (v := .pointer (some ⟨gb, ob + y, none⟩)) rfl (by kernel_rfl) (fun _ _ _ h => h) (Or.inl ⟨by rfl, fun w hS => by go_simp⟩) HS.out ?_
          simp only [Act.put, List.getElem_toArray, List.getElem_cons_zero, List.getElem_cons_succ, List.setIfInBounds_toArray, List.set_cons_zero, List.set_cons_succ]
          refine Till.take (i := 13) (v := .bool fy) rfl (by kernel_rfl) (fun _ _ _ h => h) (Or.inl ⟨by rfl, fun w hS => by have k5 := hS.2.2.2.2.2; go_simp⟩) HS.out ?_
          simp only [Act.put, List.getElem_toArray, List.getElem_cons_zero, List.getElem_cons_succ, List.setIfInBounds_toArray, List.set_cons_zero, List.set_cons_succ]
          refine Till.all (rs := [14]) (by kernel_rfl) (by simp) (Each.cons rfl (fun K hK => ?_) Each.nil)
          go_simp
          refine HFV.out fx fy _ _ _ _ _ ?_
          refine hK.out _ _ (fun _ => HS.out) ?_
          clear hK K
          simp only [Act.put, List.setIfInBounds_toArray, List.set_cons_zero, List.set_cons_succ]
          refine Till.all (rs := [15]) (by kernel_rfl) (by simp) (Each.cons rfl (fun K hK => ?_) Each.nil)
          go_simp
          have hwl6 := HB6.out.turn.size
          refine hK.out _ _ (fun _ => HKQ.out _ (fun g hg => (alloc_old (by omega)).trans (HK0.out g hg))) ?_
          clear hK K
          refine Till.all (rs := [16]) (by kernel_rfl) (by simp) (Each.cons rfl (fun K hK => ?_) Each.nil)
          refine step_append rfl (.tmp 140) (.tmp 154) 28 rfl Wl.heap.size 4 iB (.bool false) 1 1 Tryd.underlying28 HIB.out HZB.out.1 HZB.out.2.1 HZB.out.2.2 rfl (by decide) (.slice ade fin.length cpe) fin.length (fin.map Value.bool) (by rfl) (HB6.out.fins.alloc _) ⟨w6d.heap.size, 0, none⟩ 1 1 [.bool (f fx fy)] (by rfl) rfl (cell_one_new _ _ _) (one_cell_one rfl) (by unfold maxLen; omega) (by omega) (by simp; omega) ?_
          intro ev' w8 ho8 hg8 _
          obtain ⟨ade', cpe', rfl⟩ := own_shape ho8
          have HO8 := hid ho8
          have HG8 := hid hg8
          have hd8 := HB6.out.dbox2 hbd HB6.out.fins hg8
          refine hK.out _ _ (fun _ => HKQ.out _ (fun g hg => ?_)) ?_
          · exact (hg8.block g (by simp; omega) (fun e => by have := (HB6.out.fins.lt _ e.symm).1; omega)).trans ((alloc_old (by omega)).trans (HK0.out g hg))
          have HS8 := hid (HKQ.out w8 (fun g hg => (hg8.block g (by simp; omega) (fun e => by have := (HB6.out.fins.lt _ e.symm).1; omega)).trans ((alloc_old (by omega)).trans (HK0.out g hg))))
          have y1 := cell_blk (i := 2) hd8 rfl
          have y2 := free_box (i := 2) hd8
          clear hK K ho8 hg8 hd8
          simp only [Act.put, List.getElem_toArray, List.getElem_cons_zero, List.getElem_cons_succ, List.setIfInBounds_toArray, List.set_cons_zero, List.set_cons_succ]
          refine Till.take (i := 17) (v := .pointer (some ⟨Bd, 2, none⟩)) rfl (by kernel_rfl) (fun _ _ _ h => h) (Or.inl ⟨by rfl, fun w hS => by go_simp⟩) HS8.out ?_
          simp only [Act.put, List.getElem_toArray, List.getElem_cons_zero, List.getElem_cons_succ, List.setIfInBounds_toArray, List.set_cons_zero, List.set_cons_succ]
          refine Till.all (rs := [18]) (by kernel_rfl) (by simp) (Each.cons rfl (fun K hK => ?_) Each.nil)
          go_simp
          refine hK.out _ _ (fun h => absurd h (by decide)) ?_
          clear hK K
          refine Till.done (by kernel_rfl) ?_ _
          have HB9 := hid (HB6.out.addFin hbd n1 n2 (x := f fx fy) HO8.out HG8.out)
          go_wp2_with fail
          refine And.intro ?_ ?_
          · exact ⟨s + 1, rows', next ++ [acc], fin ++ [f fx fy], _, _, by go_num, HB9.out, HGD⟩
          · simp [intOf]; omega
    · have HLAST := hid (hnum.out.last hs)
      have hs' : ¬ ((s : Int) < (rows.length : Int)) := by omega
      obtain ⟨vs, hvs, hvl, _⟩ := HB.out.nxt.ex
      obtain ⟨adn, cpn, rfl⟩ := own_shape hvs
      obtain ⟨ade, cpe, rfl⟩ := own_shape HB.out.fins
      have HTB := hid HB.out.turn
      have hzt := HTB.out.size
      have HTU := hid (show Turn (fun g => g = w.heap.size + 1 + 1 + 1) wr (wr.setRow (w.heap.size + 1 + 1 + 1) #[.slice (some ⟨C, 0, none⟩) 256 256, .slice adn vs.length cpn, .slice ade fin.length cpe]) from turn_setRow (S := fun g => g = w.heap.size + 1 + 1 + 1) rfl _)
      have H1 := hid (setRow_heap (HRT.out wr HTB.out) #[.slice (some ⟨C, 0, none⟩) 256 256, .slice adn vs.length cpn, .slice ade fin.length cpe])
      have HDF := hid (HB.out.dfa (B := w.heap.size) (HCLT.out wr HTB.out) (clsOf_len _ _) (by omega) (by omega) (by omega) HTU.out)
      have HBE := hid ((HBT.out wr HTB.out).trans (HTU.out.below (by omega) (fun g hg => by omega)))
      clear hvs hvl
      go_upto_region 30 with fail
      go_step
      refine wpList_load_blk rfl 30 (.tmp 13) rfl 3 infoDfa _ Tryd.underlying30 rfl Bd rfl 30 _ HB.out.dbox rfl ?_
      refine wpList_store_blk rfl 30 (.tmp 6) (.tmp 157) rfl 3 infoDfa (w.heap.size + 1 + 1 + 1) 30 _ (HRT.out wr HTB.out) rfl #[.slice (some ⟨C, 0, none⟩) 256 256, .slice adn vs.length cpn, .slice ade fin.length cpe] (by rfl) (by rfl) rfl rfl ?_
      generalize wr.setRow (w.heap.size + 1 + 1 + 1) #[.slice (some ⟨C, 0, none⟩) 256 256, .slice adn vs.length cpn, .slice ade fin.length cpe] = W5 at *
      go_wp2_with fail
      refine bodyPost_ret (results_cell_one (ty := 30) rfl _ _ (w.heap.size + 1 + 1 + 1) 30 _ (0, 0) _ rfl H1.out Tryd.underlying30 rfl (by kernel_rfl)) rfl ?_
      rw [HXR.out, HLAST.out]
      exact ⟨_, _, _, rfl, HDF.out, HBE.out⟩
end Go.Proofs.YtfjomnhdmkbkiaaDoor.Im

namespace Go.Proofs.YtfjomnhdmkbkiaaDoor.Im
open Go.RowKit Go.Lib Go.Maps

theorem fn_ok {fv : FuncId} {f : Bool → Bool → Bool} {fn : Func} (_ : Tryd.prog.funcs[fv]? = some fn) (he : ∀ (x y : Bool) (W : World), (callFunc fv #[.bool x, .bool y]).run Tryd.prog W = .ok (.enter fv #[.bool x, .bool y]) W)
    (hc : ∀ (x y : Bool) (W : World), Calls Tryd.prog fv #[.bool x, .bool y] W fun e w' => e = .returned (.bool (f x y)) ∧ w' = W) : FnOk fv f := by
  intro x y W o a K Q hK
  rw [he x y W]
  refine (hc x y W).mono ?_
  rintro e w' ⟨rfl, rfl⟩
  exact hK
set_option maxRecDepth 100000 in
set_option maxHeartbeats 4000000 in
theorem pairs_bad {F G : Nat → Prop} {w : World} {fv : FuncId} (_ : Bool → Bool → Bool) {a1 a2 a3 b1 b2 b3 : Value} {a b : Dfa} (ha : DfaIn F w a1 a2 a3 a) (hb : DfaIn G w b1 b2 b3 b) (hF : ∀ g, F g → g < w.heap.size) (hG : ∀ g, G g → g < w.heap.size) (hno : ¬ (dfaOk a = true ∧ dfaOk b = true)) :
    Calls Tryd.prog 65 #[.agg #[.func (.func fv) #[] #[]], .agg #[a1, a2, a3], .agg #[b1, b2, b3]] w (OfPost w (.error 1)) := by
  obtain ⟨W0, hW0⟩ : ∃ W0, W0 = (((w.alloc (.cells #[.func (.func fv) #[] #[]] 96)).alloc (.cells #[a1, a2, a3] 30)).alloc (.cells #[b1, b2, b3] 30)).alloc (.cells #[.slice none 0 0, .slice none 0 0, .slice none 0 0] 30) := ⟨_, rfl⟩
  have hA0 : W0.heap[w.heap.size + 1]? = some (.cells #[a1, a2, a3] 30 (0, 0)) := by rw [hW0]; exact (alloc_old (by simp)).trans ((alloc_old (by simp)).trans (newB _ _ _))
  have hC0 : W0.heap[w.heap.size + 1 + 1]? = some (.cells #[b1, b2, b3] 30 (0, 0)) := by
    rw [hW0]
    refine (alloc_old (by simp)).trans ?_
    have := newB (w.alloc (.cells #[.func (.func fv) #[] #[]] 96)) (.cells #[a1, a2, a3] 30) (.cells #[b1, b2, b3] 30)
    rw [World.size_alloc] at this
    exact this
  have hR0 : W0.heap[w.heap.size + 1 + 1 + 1]? = some (.cells #[.slice none 0 0, .slice none 0 0, .slice none 0 0] 30 (0, 0)) := by
    rw [hW0]
    have := newB ((w.alloc (.cells #[.func (.func fv) #[] #[]] 96)).alloc (.cells #[a1, a2, a3] 30)) (.cells #[b1, b2, b3] 30) (.cells #[.slice none 0 0, .slice none 0 0, .slice none 0 0] 30)
    rw [World.size_alloc, World.size_alloc] at this
    exact this
  have hB0 : Below w.heap.size w W0 := by rw [hW0]; exact ((((Below.refl _ _).alloc (Nat.le_refl _) _).alloc (by simp) _).alloc (by simp; omega) _).alloc (by simp; omega) _
  have HBW := hid (fun (W : World) (h : Below W0.heap.size W0 W) => hB0.trans (h.mono hB0.size))
  have HAW := hid (fun (W : World) (h : Below W0.heap.size W0 W) => (show DfaIn F W a1 a2 a3 a from ha.frame (fun _ h => h) (fun g hg _ => (HBW.out W h).block g (hF g hg))))
  have HCW := hid (fun (W : World) (h : Below W0.heap.size W0 W) => (show DfaIn G W b1 b2 b3 b from hb.frame (fun _ h => h) (fun g hg _ => (HBW.out W h).block g (hG g hg))))
  have HF := hid hF
  have HG := hid hG
  have HXA := hid (fun (W : World) (h : Below W0.heap.size W0 W) => (h.block (w.heap.size + 1) (lt_of_heap hA0)).trans hA0)
  have HXC := hid (fun (W : World) (h : Below W0.heap.size W0 W) => (h.block (w.heap.size + 1 + 1) (lt_of_heap hC0)).trans hC0)
  have HRW := hid (fun (W : World) (h : Below W0.heap.size W0 W) => (h.block (w.heap.size + 1 + 1 + 1) (lt_of_heap hR0)).trans hR0)
  have HTH := hid (fun (W W' : World) (h : Below W0.heap.size W0 W) (h' : Below W.heap.size W W') => h.trans (h'.mono h.size))
  have HNO := hid hno
  obtain ⟨ada, cpa, rfl, hma, _⟩ := ha.cls
  obtain ⟨adb, cpb, rfl, hmb, _⟩ := ha.next
  obtain ⟨adc, cpc, rfl, hmc, _⟩ := ha.fin
  obtain ⟨ada', cpa', rfl, hma', _⟩ := hb.cls
  obtain ⟨adb', cpb', rfl, hmb', _⟩ := hb.next
  obtain ⟨adc', cpc', rfl, hmc', _⟩ := hb.fin
  have HW0 := hid hW0
  clear ha hb hF hG hno hA0 hC0 hR0 hB0 hW0
  obtain ⟨q0, q1, q2⟩ := dcells (HXA.out W0 (Below.refl _ _))
  obtain ⟨r0, r1, r2⟩ := dcells (HXC.out W0 (Below.refl _ _))
  have hch := dfaCheck_any (HAW.out W0 (Below.refl _ _)) (fun g hg => Nat.lt_of_lt_of_le (HF.out g hg) (HBW.out W0 (Below.refl _ _)).size)
  go_enter Tryd.func65, Tryd.ntmps65
  go_upto_region 1 with fail
  rw [← HW0.out]
  cases hoka : dfaOk a with
  | false =>
    rw [errOf_false hoka] at hch
    clear hoka
    go_wp2_with fail
    refine hch.mono ?_
    clear hch q0 q1 q2 r0 r1 r2
    rintro e w1 ⟨rfl, hb1⟩
    have H1 := hid (HTH.out _ _ (Below.refl _ _) hb1)
    have HRES := hid (HRW.out w1 H1.out)
    clear hb1
    go_wp2_with (refine wpList_store_same rfl 30 (.tmp 6) (.tmp 33) rfl 3 infoDfa (w.heap.size + 1 + 1 + 1) 30 _ HRES.out rfl (by rfl) (by rfl) rfl ?_)
    refine bodyPost_ret (results_cell_one (ty := 30) rfl _ _ (w.heap.size + 1 + 1 + 1) 30 _ (0, 0) _ rfl HRES.out Tryd.underlying30 rfl (by kernel_rfl)) rfl ?_
    exact ⟨rfl, HBW.out _ H1.out⟩
  | true =>
    have hokb : dfaOk b = false := by
      cases h : dfaOk b with
      | false => rfl
      | true => exact absurd ⟨hoka, h⟩ HNO.out
    rw [errOf_true hoka] at hch
    have HOB := hid hokb
    clear hoka hokb
    go_wp2_with fail
    refine hch.mono ?_
    clear hch q0 q1 q2 r0 r1 r2
    rintro e w1 ⟨rfl, hb1⟩
    have H1 := hid (HTH.out _ _ (Below.refl _ _) hb1)
    clear hb1
    obtain ⟨r0, r1, r2⟩ := dcells (HXC.out w1 H1.out)
    have hch := dfaCheck_any (HCW.out w1 H1.out) (fun g hg => Nat.lt_of_lt_of_le (HG.out g hg) (HBW.out w1 H1.out).size)
    rw [errOf_false HOB.out] at hch
    go_wp2_with fail
    refine hch.mono ?_
    clear hch r0 r1 r2
    rintro e w2 ⟨rfl, hb2⟩
    have H2 := hid (HTH.out _ _ H1.out hb2)
    have HRES := hid (HRW.out w2 H2.out)
    clear hb2
    go_wp2_with (refine wpList_store_same rfl 30 (.tmp 6) (.tmp 33) rfl 3 infoDfa (w.heap.size + 1 + 1 + 1) 30 _ HRES.out rfl (by rfl) (by rfl) rfl ?_)
    refine bodyPost_ret (results_cell_one (ty := 30) rfl _ _ (w.heap.size + 1 + 1 + 1) 30 _ (0, 0) _ rfl HRES.out Tryd.underlying30 rfl (by kernel_rfl)) rfl ?_
    exact ⟨rfl, HBW.out _ H2.out⟩
set_option maxRecDepth 100000 in
theorem pairs_any {F G : Nat → Prop} {w : World} {fv : FuncId} {f : Bool → Bool → Bool} {a1 a2 a3 b1 b2 b3 : Value} {a b : Dfa} (ha : DfaIn F w a1 a2 a3 a) (hb : DfaIn G w b1 b2 b3 b) (hF : ∀ g, F g → g < w.heap.size) (hG : ∀ g, G g → g < w.heap.size) (hT : Tab w) (hfv : FnOk fv f) :
    Calls Tryd.prog 65 #[.agg #[.func (.func fv) #[] #[]], .agg #[a1, a2, a3], .agg #[b1, b2, b3]] w (OfPost w (joinM f a b)) := by
  by_cases h : dfaOk a = true ∧ dfaOk b = true
  · exact pairs_main ha hb hF hG hT hfv h.1 h.2
  · rw [join_bad f h]
    exact pairs_bad f ha hb hF hG h
/-- what is handed back, the other way round -/
def OfOut (w : World) (x : Except Int Dfa) (e : Ending) (w' : World) : Prop := ∃ a b c, e = .returned (.tuple #[.agg #[a, b, c], .int .i64 (outX x).2]) ∧ DfaIn (fun g => w.heap.size ≤ g ∧ g < w'.heap.size) w' a b c (outX x).1 ∧ Below w.heap.size w w'
theorem out_of {w w' : World} {x : Except Int Dfa} {e : Ending} {a b c : Value} (he : e = .returned (.tuple #[.agg #[a, b, c], .int .i64 (outX x).2])) (hd : DfaIn (fun g => w.heap.size ≤ g ∧ g < w'.heap.size) w' a b c (outX x).1) (hb : Below w.heap.size w w') : OfOut w x e w' := ⟨a, b, c, he, hd, hb⟩
set_option maxRecDepth 100000 in
theorem fn_and : FnOk 64 (fun x y => x && y) := by
  refine fn_ok Tryd.func64 (fun x y W => ?_) (fun x y W => ?_)
  · have hf := Tryd.func64
    simp [callFunc, hf]
    rfl
  · cases x <;> cases y
    all_goals go_enter Tryd.func64, Tryd.ntmps64
    all_goals go_wp2_with fail
    all_goals go_ret
    all_goals exact ⟨rfl, rfl⟩
set_option maxRecDepth 100000 in
theorem fn_or : FnOk 66 (fun x y => x || y) := by
  refine fn_ok Tryd.func66 (fun x y W => ?_) (fun x y W => ?_)
  · have hf := Tryd.func66
    simp [callFunc, hf]
    rfl
  · cases x <;> cases y
    all_goals go_enter Tryd.func66, Tryd.ntmps66
    all_goals go_wp2_with fail
    all_goals go_ret
    all_goals exact ⟨rfl, rfl⟩
set_option maxRecDepth 100000 in
theorem fn_less : FnOk 67 (fun x y => x && !y) := by
  refine fn_ok Tryd.func67 (fun x y W => ?_) (fun x y W => ?_)
  · have hf := Tryd.func67
    simp [callFunc, hf]
    rfl
  · cases x <;> cases y
    all_goals go_enter Tryd.func67, Tryd.ntmps67
    all_goals go_wp2_with fail
    all_goals go_ret
    all_goals exact ⟨rfl, rfl⟩
set_option maxRecDepth 100000 in
theorem fn_apart : FnOk 68 (fun x y => x != y) := by
  refine fn_ok Tryd.func68 (fun x y W => ?_) (fun x y W => ?_)
  · have hf := Tryd.func68
    simp [callFunc, hf]
    rfl
  · cases x <;> cases y
    all_goals go_enter Tryd.func68, Tryd.ntmps68
    all_goals go_wp2_with fail
    all_goals go_ret
    all_goals exact ⟨rfl, rfl⟩
set_option maxRecDepth 100000 in
set_option maxHeartbeats 4000000 in
theorem bAnd_any {F G : Nat → Prop} {w : World} {a1 a2 a3 b1 b2 b3 : Value} {a b : Dfa} (ha : DfaIn F w a1 a2 a3 a) (hb : DfaIn G w b1 b2 b3 b) (hF : ∀ g, F g → g < w.heap.size) (hG : ∀ g, G g → g < w.heap.size) (hT : Tab w) :
    Calls Tryd.prog 29 #[.agg #[a1, a2, a3], .agg #[b1, b2, b3]] w (OfOut w (joinM (fun x y => x && y) a b)) := by
  obtain ⟨W0, hW0⟩ : ∃ W0, W0 = ((w.alloc (.cells #[a1, a2, a3] 30)).alloc (.cells #[b1, b2, b3] 30)).alloc (.cells #[.slice none 0 0, .slice none 0 0, .slice none 0 0] 30) := ⟨_, rfl⟩
  have hA0 : W0.heap[w.heap.size]? = some (.cells #[a1, a2, a3] 30 (0, 0)) := by rw [hW0]; exact (alloc_old (by simp; omega)).trans ((alloc_old (by simp)).trans (heap_alloc_new _ _))
  have hC0 : W0.heap[w.heap.size + 1]? = some (.cells #[b1, b2, b3] 30 (0, 0)) := by rw [hW0]; exact (alloc_old (by simp)).trans (newB _ _ _)
  have hR0 : W0.heap[w.heap.size + 1 + 1]? = some (.cells #[.slice none 0 0, .slice none 0 0, .slice none 0 0] 30 (0, 0)) := by
    rw [hW0]
    have := newB (w.alloc (.cells #[a1, a2, a3] 30)) (.cells #[b1, b2, b3] 30) (.cells #[.slice none 0 0, .slice none 0 0, .slice none 0 0] 30)
    rw [World.size_alloc] at this
    exact this
  have hB0 : Below w.heap.size w W0 := by rw [hW0]; exact (((Below.refl _ _).alloc (Nat.le_refl _) _).alloc (by simp) _).alloc (by simp; omega) _
  have hpr := pairs_any (ha.frame (F' := F) (w' := W0) (fun _ h => h) (fun g hg _ => hB0.block g (hF g hg))) (hb.frame (F' := G) (w' := W0) (fun _ h => h) (fun g hg _ => hB0.block g (hG g hg))) (fun g hg => Nat.lt_of_lt_of_le (hF g hg) hB0.size) (fun g hg => Nat.lt_of_lt_of_le (hG g hg) hB0.size) (hT.below hB0) fn_and
  obtain ⟨ada, cpa, rfl, hma, _⟩ := ha.cls
  obtain ⟨adb, cpb, rfl, hmb, _⟩ := ha.next
  obtain ⟨adc, cpc, rfl, hmc, _⟩ := ha.fin
  obtain ⟨ada', cpa', rfl, hma', _⟩ := hb.cls
  obtain ⟨adb', cpb', rfl, hmb', _⟩ := hb.next
  obtain ⟨adc', cpc', rfl, hmc', _⟩ := hb.fin
  obtain ⟨q0, q1, q2⟩ := dcells hA0
  obtain ⟨r0, r1, r2⟩ := dcells hC0
  have HW0 := hid hW0
  have HB0 := hid hB0
  have HR0 := hid hR0
  clear hA0 hC0 hR0 hB0 hW0 ha hb hF hG hT
  generalize joinM (fun x y => x && y) a b = xr at *
  go_enter Tryd.func29, Tryd.ntmps29
  go_upto_region 1 with fail
  rw [← HW0.out]
  go_wp2_with fail
  refine hpr.mono ?_
  clear hpr q0 q1 q2 r0 r1 r2
  rintro e w1 hp
  obtain ⟨d1, d2, d3, rfl, hd, hb1⟩ := of_out hp
  obtain ⟨x1, c1, rfl, _, _⟩ := hd.cls
  obtain ⟨x2, c2, rfl, _, _⟩ := hd.next
  obtain ⟨x3, c3, rfl, _, _⟩ := hd.fin
  have HD := hid hd
  have HB1 := hid hb1
  have HR1 := hid ((hb1.block _ (lt_of_heap HR0.out)).trans HR0.out)
  have HZ := hid (show w.heap.size + 3 ≤ W0.heap.size by rw [HW0.out]; simp)
  have HTU := hid (show Turn (fun g => g = w.heap.size + 1 + 1) w1 (w1.setRow (w.heap.size + 1 + 1) #[.slice x1 (outX xr).1.cls.length c1, .slice x2 (outX xr).1.next.length c2, .slice x3 (outX xr).1.fin.length c3]) from turn_setRow (S := fun g => g = w.heap.size + 1 + 1) rfl _)
  have H1 := hid (setRow_heap HR1.out #[.slice x1 (outX xr).1.cls.length c1, .slice x2 (outX xr).1.next.length c2, .slice x3 (outX xr).1.fin.length c3])
  clear hd hb1 hp
  go_wp2_with (refine wpList_store_blk rfl 30 (.tmp 4) (.tmp 10) rfl 3 infoDfa (w.heap.size + 1 + 1) 30 _ HR1.out rfl #[.slice x1 (outX xr).1.cls.length c1, .slice x2 (outX xr).1.next.length c2, .slice x3 (outX xr).1.fin.length c3] (by rfl) (by rfl) rfl rfl ?_)
  generalize w1.setRow (w.heap.size + 1 + 1) #[.slice x1 (outX xr).1.cls.length c1, .slice x2 (outX xr).1.next.length c2, .slice x3 (outX xr).1.fin.length c3] = W5 at *
  refine bodyPost_ret (results_cell_one (ty := 30) rfl _ _ (w.heap.size + 1 + 1) 30 _ (0, 0) _ rfl H1.out Tryd.underlying30 rfl (by kernel_rfl)) rfl ?_
  have hbw : Below w.heap.size w W5 := (HB0.out.trans (HB1.out.mono HB0.out.size)).trans (HTU.out.below (by have := HB0.out.size; have := HB1.out.size; omega) (fun g hg => by omega))
  have hdw : DfaIn (fun g => w.heap.size ≤ g ∧ g < W5.heap.size) W5 (.slice x1 (outX xr).1.cls.length c1) (.slice x2 (outX xr).1.next.length c2) (.slice x3 (outX xr).1.fin.length c3) (outX xr).1 := HD.out.frame (fun g hg => ⟨by have := hg.1; have := HB0.out.size; omega, by have := hg.2; have := HTU.out.size; omega⟩) (fun g hg hl => HTU.out.block g hl (fun e => by have := hg.1; have := HZ.out; omega))
  exact out_of rfl hdw hbw
set_option maxRecDepth 100000 in
set_option maxHeartbeats 4000000 in
theorem bOr_any {F G : Nat → Prop} {w : World} {a1 a2 a3 b1 b2 b3 : Value} {a b : Dfa} (ha : DfaIn F w a1 a2 a3 a) (hb : DfaIn G w b1 b2 b3 b) (hF : ∀ g, F g → g < w.heap.size) (hG : ∀ g, G g → g < w.heap.size) (hT : Tab w) :
    Calls Tryd.prog 30 #[.agg #[a1, a2, a3], .agg #[b1, b2, b3]] w (OfOut w (joinM (fun x y => x || y) a b)) := by
  obtain ⟨W0, hW0⟩ : ∃ W0, W0 = ((w.alloc (.cells #[a1, a2, a3] 30)).alloc (.cells #[b1, b2, b3] 30)).alloc (.cells #[.slice none 0 0, .slice none 0 0, .slice none 0 0] 30) := ⟨_, rfl⟩
  have hA0 : W0.heap[w.heap.size]? = some (.cells #[a1, a2, a3] 30 (0, 0)) := by rw [hW0]; exact (alloc_old (by simp; omega)).trans ((alloc_old (by simp)).trans (heap_alloc_new _ _))
  have hC0 : W0.heap[w.heap.size + 1]? = some (.cells #[b1, b2, b3] 30 (0, 0)) := by rw [hW0]; exact (alloc_old (by simp)).trans (newB _ _ _)
  have hR0 : W0.heap[w.heap.size + 1 + 1]? = some (.cells #[.slice none 0 0, .slice none 0 0, .slice none 0 0] 30 (0, 0)) := by
    rw [hW0]
    have := newB (w.alloc (.cells #[a1, a2, a3] 30)) (.cells #[b1, b2, b3] 30) (.cells #[.slice none 0 0, .slice none 0 0, .slice none 0 0] 30)
    rw [World.size_alloc] at this
    exact this
  have hB0 : Below w.heap.size w W0 := by rw [hW0]; exact (((Below.refl _ _).alloc (Nat.le_refl _) _).alloc (by simp) _).alloc (by simp; omega) _
  have hpr := pairs_any (ha.frame (F' := F) (w' := W0) (fun _ h => h) (fun g hg _ => hB0.block g (hF g hg))) (hb.frame (F' := G) (w' := W0) (fun _ h => h) (fun g hg _ => hB0.block g (hG g hg))) (fun g hg => Nat.lt_of_lt_of_le (hF g hg) hB0.size) (fun g hg => Nat.lt_of_lt_of_le (hG g hg) hB0.size) (hT.below hB0) fn_or
  obtain ⟨ada, cpa, rfl, hma, _⟩ := ha.cls
  obtain ⟨adb, cpb, rfl, hmb, _⟩ := ha.next
  obtain ⟨adc, cpc, rfl, hmc, _⟩ := ha.fin
  obtain ⟨ada', cpa', rfl, hma', _⟩ := hb.cls
  obtain ⟨adb', cpb', rfl, hmb', _⟩ := hb.next
  obtain ⟨adc', cpc', rfl, hmc', _⟩ := hb.fin
  obtain ⟨q0, q1, q2⟩ := dcells hA0
  obtain ⟨r0, r1, r2⟩ := dcells hC0
  have HW0 := hid hW0
  have HB0 := hid hB0
  have HR0 := hid hR0
  clear hA0 hC0 hR0 hB0 hW0 ha hb hF hG hT
  generalize joinM (fun x y => x || y) a b = xr at *
  go_enter Tryd.func30, Tryd.ntmps30
  go_upto_region 1 with fail
  rw [← HW0.out]
  go_wp2_with fail
  refine hpr.mono ?_
  clear hpr q0 q1 q2 r0 r1 r2
  rintro e w1 hp
  obtain ⟨d1, d2, d3, rfl, hd, hb1⟩ := of_out hp
  obtain ⟨x1, c1, rfl, _, _⟩ := hd.cls
  obtain ⟨x2, c2, rfl, _, _⟩ := hd.next
  obtain ⟨x3, c3, rfl, _, _⟩ := hd.fin
  have HD := hid hd
  have HB1 := hid hb1
  have HR1 := hid ((hb1.block _ (lt_of_heap HR0.out)).trans HR0.out)
  have HZ := hid (show w.heap.size + 3 ≤ W0.heap.size by rw [HW0.out]; simp)
  have HTU := hid (show Turn (fun g => g = w.heap.size + 1 + 1) w1 (w1.setRow (w.heap.size + 1 + 1) #[.slice x1 (outX xr).1.cls.length c1, .slice x2 (outX xr).1.next.length c2, .slice x3 (outX xr).1.fin.length c3]) from turn_setRow (S := fun g => g = w.heap.size + 1 + 1) rfl _)
  have H1 := hid (setRow_heap HR1.out #[.slice x1 (outX xr).1.cls.length c1, .slice x2 (outX xr).1.next.length c2, .slice x3 (outX xr).1.fin.length c3])
  clear hd hb1 hp
  go_wp2_with (refine wpList_store_blk rfl 30 (.tmp 4) (.tmp 10) rfl 3 infoDfa (w.heap.size + 1 + 1) 30 _ HR1.out rfl #[.slice x1 (outX xr).1.cls.length c1, .slice x2 (outX xr).1.next.length c2, .slice x3 (outX xr).1.fin.length c3] (by rfl) (by rfl) rfl rfl ?_)
  generalize w1.setRow (w.heap.size + 1 + 1) #[.slice x1 (outX xr).1.cls.length c1, .slice x2 (outX xr).1.next.length c2, .slice x3 (outX xr).1.fin.length c3] = W5 at *
  refine bodyPost_ret (results_cell_one (ty := 30) rfl _ _ (w.heap.size + 1 + 1) 30 _ (0, 0) _ rfl H1.out Tryd.underlying30 rfl (by kernel_rfl)) rfl ?_
  have hbw : Below w.heap.size w W5 := (HB0.out.trans (HB1.out.mono HB0.out.size)).trans (HTU.out.below (by have := HB0.out.size; have := HB1.out.size; omega) (fun g hg => by omega))
  have hdw : DfaIn (fun g => w.heap.size ≤ g ∧ g < W5.heap.size) W5 (.slice x1 (outX xr).1.cls.length c1) (.slice x2 (outX xr).1.next.length c2) (.slice x3 (outX xr).1.fin.length c3) (outX xr).1 := HD.out.frame (fun g hg => ⟨by have := hg.1; have := HB0.out.size; omega, by have := hg.2; have := HTU.out.size; omega⟩) (fun g hg hl => HTU.out.block g hl (fun e => by have := hg.1; have := HZ.out; omega))
  exact out_of rfl hdw hbw
set_option maxRecDepth 100000 in
set_option maxHeartbeats 4000000 in
theorem bLess_any {F G : Nat → Prop} {w : World} {a1 a2 a3 b1 b2 b3 : Value} {a b : Dfa} (ha : DfaIn F w a1 a2 a3 a) (hb : DfaIn G w b1 b2 b3 b) (hF : ∀ g, F g → g < w.heap.size) (hG : ∀ g, G g → g < w.heap.size) (hT : Tab w) :
    Calls Tryd.prog 31 #[.agg #[a1, a2, a3], .agg #[b1, b2, b3]] w (OfOut w (joinM (fun x y => x && !y) a b)) := by
  obtain ⟨W0, hW0⟩ : ∃ W0, W0 = ((w.alloc (.cells #[a1, a2, a3] 30)).alloc (.cells #[b1, b2, b3] 30)).alloc (.cells #[.slice none 0 0, .slice none 0 0, .slice none 0 0] 30) := ⟨_, rfl⟩
  have hA0 : W0.heap[w.heap.size]? = some (.cells #[a1, a2, a3] 30 (0, 0)) := by rw [hW0]; exact (alloc_old (by simp; omega)).trans ((alloc_old (by simp)).trans (heap_alloc_new _ _))
  have hC0 : W0.heap[w.heap.size + 1]? = some (.cells #[b1, b2, b3] 30 (0, 0)) := by rw [hW0]; exact (alloc_old (by simp)).trans (newB _ _ _)
  have hR0 : W0.heap[w.heap.size + 1 + 1]? = some (.cells #[.slice none 0 0, .slice none 0 0, .slice none 0 0] 30 (0, 0)) := by
    rw [hW0]
    have := newB (w.alloc (.cells #[a1, a2, a3] 30)) (.cells #[b1, b2, b3] 30) (.cells #[.slice none 0 0, .slice none 0 0, .slice none 0 0] 30)
    rw [World.size_alloc] at this
    exact this
  have hB0 : Below w.heap.size w W0 := by rw [hW0]; exact (((Below.refl _ _).alloc (Nat.le_refl _) _).alloc (by simp) _).alloc (by simp; omega) _
  have hpr := pairs_any (ha.frame (F' := F) (w' := W0) (fun _ h => h) (fun g hg _ => hB0.block g (hF g hg))) (hb.frame (F' := G) (w' := W0) (fun _ h => h) (fun g hg _ => hB0.block g (hG g hg))) (fun g hg => Nat.lt_of_lt_of_le (hF g hg) hB0.size) (fun g hg => Nat.lt_of_lt_of_le (hG g hg) hB0.size) (hT.below hB0) fn_less
  obtain ⟨ada, cpa, rfl, hma, _⟩ := ha.cls
  obtain ⟨adb, cpb, rfl, hmb, _⟩ := ha.next
  obtain ⟨adc, cpc, rfl, hmc, _⟩ := ha.fin
  obtain ⟨ada', cpa', rfl, hma', _⟩ := hb.cls
  obtain ⟨adb', cpb', rfl, hmb', _⟩ := hb.next
  obtain ⟨adc', cpc', rfl, hmc', _⟩ := hb.fin
  obtain ⟨q0, q1, q2⟩ := dcells hA0
  obtain ⟨r0, r1, r2⟩ := dcells hC0
  have HW0 := hid hW0
  have HB0 := hid hB0
  have HR0 := hid hR0
  clear hA0 hC0 hR0 hB0 hW0 ha hb hF hG hT
  generalize joinM (fun x y => x && !y) a b = xr at *
  go_enter Tryd.func31, Tryd.ntmps31
  go_upto_region 1 with fail
  rw [← HW0.out]
  go_wp2_with fail
  refine hpr.mono ?_
  clear hpr q0 q1 q2 r0 r1 r2
  rintro e w1 hp
  obtain ⟨d1, d2, d3, rfl, hd, hb1⟩ := of_out hp
  obtain ⟨x1, c1, rfl, _, _⟩ := hd.cls
  obtain ⟨x2, c2, rfl, _, _⟩ := hd.next
  obtain ⟨x3, c3, rfl, _, _⟩ := hd.fin
  have HD := hid hd
  have HB1 := hid hb1
  have HR1 := hid ((hb1.block _ (lt_of_heap HR0.out)).trans HR0.out)
  have HZ := hid (show w.heap.size + 3 ≤ W0.heap.size by rw [HW0.out]; simp)
  have HTU := hid (show Turn (fun g => g = w.heap.size + 1 + 1) w1 (w1.setRow (w.heap.size + 1 + 1) #[.slice x1 (outX xr).1.cls.length c1, .slice x2 (outX xr).1.next.length c2, .slice x3 (outX xr).1.fin.length c3]) from turn_setRow (S := fun g => g = w.heap.size + 1 + 1) rfl _)
  have H1 := hid (setRow_heap HR1.out #[.slice x1 (outX xr).1.cls.length c1, .slice x2 (outX xr).1.next.length c2, .slice x3 (outX xr).1.fin.length c3])
  clear hd hb1 hp
  go_wp2_with (refine wpList_store_blk rfl 30 (.tmp 4) (.tmp 10) rfl 3 infoDfa (w.heap.size + 1 + 1) 30 _ HR1.out rfl #[.slice x1 (outX xr).1.cls.length c1, .slice x2 (outX xr).1.next.length c2, .slice x3 (outX xr).1.fin.length c3] (by rfl) (by rfl) rfl rfl ?_)
  generalize w1.setRow (w.heap.size + 1 + 1) #[.slice x1 (outX xr).1.cls.length c1, .slice x2 (outX xr).1.next.length c2, .slice x3 (outX xr).1.fin.length c3] = W5 at *
  refine bodyPost_ret (results_cell_one (ty := 30) rfl _ _ (w.heap.size + 1 + 1) 30 _ (0, 0) _ rfl H1.out Tryd.underlying30 rfl (by kernel_rfl)) rfl ?_
  have hbw : Below w.heap.size w W5 := (HB0.out.trans (HB1.out.mono HB0.out.size)).trans (HTU.out.below (by have := HB0.out.size; have := HB1.out.size; omega) (fun g hg => by omega))
  have hdw : DfaIn (fun g => w.heap.size ≤ g ∧ g < W5.heap.size) W5 (.slice x1 (outX xr).1.cls.length c1) (.slice x2 (outX xr).1.next.length c2) (.slice x3 (outX xr).1.fin.length c3) (outX xr).1 := HD.out.frame (fun g hg => ⟨by have := hg.1; have := HB0.out.size; omega, by have := hg.2; have := HTU.out.size; omega⟩) (fun g hg hl => HTU.out.block g hl (fun e => by have := hg.1; have := HZ.out; omega))
  exact out_of rfl hdw hbw
set_option maxRecDepth 100000 in
set_option maxHeartbeats 4000000 in
theorem bApart_any {F G : Nat → Prop} {w : World} {a1 a2 a3 b1 b2 b3 : Value} {a b : Dfa} (ha : DfaIn F w a1 a2 a3 a) (hb : DfaIn G w b1 b2 b3 b) (hF : ∀ g, F g → g < w.heap.size) (hG : ∀ g, G g → g < w.heap.size) (hT : Tab w) :
    Calls Tryd.prog 32 #[.agg #[a1, a2, a3], .agg #[b1, b2, b3]] w (OfOut w (joinM (fun x y => x != y) a b)) := by
  obtain ⟨W0, hW0⟩ : ∃ W0, W0 = ((w.alloc (.cells #[a1, a2, a3] 30)).alloc (.cells #[b1, b2, b3] 30)).alloc (.cells #[.slice none 0 0, .slice none 0 0, .slice none 0 0] 30) := ⟨_, rfl⟩
  have hA0 : W0.heap[w.heap.size]? = some (.cells #[a1, a2, a3] 30 (0, 0)) := by rw [hW0]; exact (alloc_old (by simp; omega)).trans ((alloc_old (by simp)).trans (heap_alloc_new _ _))
  have hC0 : W0.heap[w.heap.size + 1]? = some (.cells #[b1, b2, b3] 30 (0, 0)) := by rw [hW0]; exact (alloc_old (by simp)).trans (newB _ _ _)
  have hR0 : W0.heap[w.heap.size + 1 + 1]? = some (.cells #[.slice none 0 0, .slice none 0 0, .slice none 0 0] 30 (0, 0)) := by
    rw [hW0]
    have := newB (w.alloc (.cells #[a1, a2, a3] 30)) (.cells #[b1, b2, b3] 30) (.cells #[.slice none 0 0, .slice none 0 0, .slice none 0 0] 30)
    rw [World.size_alloc] at this
    exact this
  have hB0 : Below w.heap.size w W0 := by rw [hW0]; exact (((Below.refl _ _).alloc (Nat.le_refl _) _).alloc (by simp) _).alloc (by simp; omega) _
  have hpr := pairs_any (ha.frame (F' := F) (w' := W0) (fun _ h => h) (fun g hg _ => hB0.block g (hF g hg))) (hb.frame (F' := G) (w' := W0) (fun _ h => h) (fun g hg _ => hB0.block g (hG g hg))) (fun g hg => Nat.lt_of_lt_of_le (hF g hg) hB0.size) (fun g hg => Nat.lt_of_lt_of_le (hG g hg) hB0.size) (hT.below hB0) fn_apart
  obtain ⟨ada, cpa, rfl, hma, _⟩ := ha.cls
  obtain ⟨adb, cpb, rfl, hmb, _⟩ := ha.next
  obtain ⟨adc, cpc, rfl, hmc, _⟩ := ha.fin
  obtain ⟨ada', cpa', rfl, hma', _⟩ := hb.cls
  obtain ⟨adb', cpb', rfl, hmb', _⟩ := hb.next
  obtain ⟨adc', cpc', rfl, hmc', _⟩ := hb.fin
  obtain ⟨q0, q1, q2⟩ := dcells hA0
  obtain ⟨r0, r1, r2⟩ := dcells hC0
  have HW0 := hid hW0
  have HB0 := hid hB0
  have HR0 := hid hR0
  clear hA0 hC0 hR0 hB0 hW0 ha hb hF hG hT
  generalize joinM (fun x y => x != y) a b = xr at *
  go_enter Tryd.func32, Tryd.ntmps32
  go_upto_region 1 with fail
  rw [← HW0.out]
  go_wp2_with fail
  refine hpr.mono ?_
  clear hpr q0 q1 q2 r0 r1 r2
  rintro e w1 hp
  obtain ⟨d1, d2, d3, rfl, hd, hb1⟩ := of_out hp
  obtain ⟨x1, c1, rfl, _, _⟩ := hd.cls
  obtain ⟨x2, c2, rfl, _, _⟩ := hd.next
  obtain ⟨x3, c3, rfl, _, _⟩ := hd.fin
  have HD := hid hd
  have HB1 := hid hb1
  have HR1 := hid ((hb1.block _ (lt_of_heap HR0.out)).trans HR0.out)
  have HZ := hid (show w.heap.size + 3 ≤ W0.heap.size by rw [HW0.out]; simp)
  have HTU := hid (show Turn (fun g => g = w.heap.size + 1 + 1) w1 (w1.setRow (w.heap.size + 1 + 1) #[.slice x1 (outX xr).1.cls.length c1, .slice x2 (outX xr).1.next.length c2, .slice x3 (outX xr).1.fin.length c3]) from turn_setRow (S := fun g => g = w.heap.size + 1 + 1) rfl _)
  have H1 := hid (setRow_heap HR1.out #[.slice x1 (outX xr).1.cls.length c1, .slice x2 (outX xr).1.next.length c2, .slice x3 (outX xr).1.fin.length c3])
  clear hd hb1 hp
  go_wp2_with (refine wpList_store_blk rfl 30 (.tmp 4) (.tmp 10) rfl 3 infoDfa (w.heap.size + 1 + 1) 30 _ HR1.out rfl #[.slice x1 (outX xr).1.cls.length c1, .slice x2 (outX xr).1.next.length c2, .slice x3 (outX xr).1.fin.length c3] (by rfl) (by rfl) rfl rfl ?_)
  generalize w1.setRow (w.heap.size + 1 + 1) #[.slice x1 (outX xr).1.cls.length c1, .slice x2 (outX xr).1.next.length c2, .slice x3 (outX xr).1.fin.length c3] = W5 at *
  refine bodyPost_ret (results_cell_one (ty := 30) rfl _ _ (w.heap.size + 1 + 1) 30 _ (0, 0) _ rfl H1.out Tryd.underlying30 rfl (by kernel_rfl)) rfl ?_
  have hbw : Below w.heap.size w W5 := (HB0.out.trans (HB1.out.mono HB0.out.size)).trans (HTU.out.below (by have := HB0.out.size; have := HB1.out.size; omega) (fun g hg => by omega))
  have hdw : DfaIn (fun g => w.heap.size ≤ g ∧ g < W5.heap.size) W5 (.slice x1 (outX xr).1.cls.length c1) (.slice x2 (outX xr).1.next.length c2) (.slice x3 (outX xr).1.fin.length c3) (outX xr).1 := HD.out.frame (fun g hg => ⟨by have := hg.1; have := HB0.out.size; omega, by have := hg.2; have := HTU.out.size; omega⟩) (fun g hg hl => HTU.out.block g hl (fun e => by have := hg.1; have := HZ.out; omega))
  exact out_of rfl hdw hbw
end Go.Proofs.YtfjomnhdmkbkiaaDoor.Im

namespace Go.Proofs.YtfjomnhdmkbkiaaDoor.Im
open Go.RowKit Go.Lib Go.Maps

/-- at the head of Not's loop; Wl: the memory when it began -/
structure NBase (Wl : World) (Bd : Nat) (cv : Value) (W : World) (next : List (List Int)) (fin : List Bool) (nv ev : Value) : Prop where
  turn : Turn (fun g => g = Bd) Wl W
  dbox : W.heap[Bd]? = some (.cells #[cv, nv, ev] 30 (0, 0))
  nxt : NextIn W Wl.heap.size nv next fun _ => False
  fins : OwnBools W Wl.heap.size ev fin
theorem NBase.start {Wl : World} {Bd : Nat} {cv : Value} (hd : Wl.heap[Bd]? = some (.cells #[cv, .slice none 0 0, .slice none 0 0] 30 (0, 0))) : NBase Wl Bd cv Wl [] [] (.slice none 0 0) (.slice none 0 0) := by
  refine ⟨Turn.refl _ _, hd, ⟨⟨[], World.ownsRow_nil _ _ _ _, rfl, fun i v l e1 _ => ?_⟩, fun g hg => ?_⟩, World.ownsRow_nil _ _ _ _⟩
  · simp at e1
  · cases hg
theorem NBase.below {Wl W W' : World} {Bd : Nat} {cv nv ev : Value} {next : List (List Int)} {fin : List Bool} (h : NBase Wl Bd cv W next fin nv ev) (k : Below W.heap.size W W') : NBase Wl Bd cv W' next fin nv ev :=
  ⟨h.turn.trans (Turn.of_below k), (k.block _ (lt_of_heap h.dbox)).trans h.dbox, h.nxt.keep (fun g _ hg _ _ => k.block g hg) (fun _ _ h => h), own_later h.fins k⟩
theorem NBase.dbox2 {Wl W W2 : World} {Bd e k m : Nat} {cv nv ev u : Value} {xs : List Value} {next : List (List Int)} {fin : List Bool} {o : Obj} (h : NBase Wl Bd cv W next fin nv ev) (hbd : Bd < Wl.heap.size) (hu : W.ownsRow Wl.heap.size e k u m xs) (hg : (W.alloc o).grownBy W2 u.ownBlock) :
    W2.heap[Bd]? = some (.cells #[cv, nv, ev] 30 (0, 0)) := by
  have hws := h.turn.size
  exact (hg.block _ (by simp; omega) (fun e => by have := (hu.lt _ e.symm).1; omega)).trans ((alloc_old (by omega)).trans h.dbox)
theorem NBase.addNext {Wl W W2 : World} {Bd : Nat} {cv nv ev nv' v : Value} {next : List (List Int)} {fin : List Bool} {vs : List Value} {o : Obj} {l : List Int} (h : NBase Wl Bd cv W next fin nv ev) (hbd : Bd < Wl.heap.size)
    (hvs : W.ownsRow Wl.heap.size 22 1 nv vs.length vs) (hlen : vs.length = next.length) (hrows : ∀ (i : Nat) (v : Value) (l : List Int), vs[i]? = some v → next[i]? = some l → OwnInts W Wl.heap.size v l ∧ ∀ g, v.ownBlock = some g → ¬ False)
    (hv : OwnInts W Wl.heap.size v l) (hown : W2.ownsRow Wl.heap.size 22 1 nv' (vs.length + 1) (vs ++ [v])) (hg : (W.alloc o).grownBy W2 nv.ownBlock) :
    NBase Wl Bd cv (W2.setCell ⟨Bd, 1, none⟩ nv') (next ++ [l]) fin nv' ev := by
  have hws := h.turn.size
  have hnb : nv.ownBlock ≠ some Bd := fun e => by have := (own_lt hvs e).1; omega
  have hd2 := h.dbox2 hbd hvs hg
  have htu : Turn (fun g => g = Bd ∨ nv.ownBlock = some g) W (W2.setCell ⟨Bd, 1, none⟩ nv') := (((Turn.refl _ W).alloc o).grown hg (fun g e => .inr e)).setCell (.inl rfl) _
  have hsame : ∀ g, g < W.heap.size → g ≠ Bd → nv.ownBlock ≠ some g → (W2.setCell ⟨Bd, 1, none⟩ nv').heap[g]? = W.heap[g]? := fun g hg h3 h4 => htu.block g hg fun h5 => h5.elim h3 h4
  have hints : ∀ {u : Value} {xs : List Int}, OwnInts W Wl.heap.size u xs → OwnInts (W2.setCell ⟨Bd, 1, none⟩ nv') Wl.heap.size u xs := fun hu => own_blk hu fun g hg => hsame g (own_lt hu hg).2 (by have := (own_lt hu hg).1; omega) (own_apart hu hvs (by decide) g hg)
  refine ⟨h.turn.then htu fun g hg => ?_, three_set1 _ hd2, ⟨⟨vs ++ [v], ?_, by simp [hlen], fun i u xs e1 e2 => ?_⟩, fun g hg hf => hf⟩, own_blk h.fins (fun g hg => hsame g (own_lt h.fins hg).2 (by have := (own_lt h.fins hg).1; omega) (own_apart h.fins hvs (by decide) g hg))⟩
  · rcases hg with rfl | hg
    · exact .inl rfl
    · exact .inr (own_lt hvs hg).1
  · have := own_set (i := 1) (u := nv') hown hd2 (by decide)
    rw [List.length_append]
    exact this
  · rcases append_get e1 with e1 | ⟨rfl, rfl⟩
    · have hi := (List.getElem?_eq_some_iff.1 e1).1
      rw [List.getElem?_append_left (by omega)] at e2
      exact ⟨hints (hrows i u xs e1 e2).1, (hrows i u xs e1 e2).2⟩
    · rw [hlen, List.getElem?_append_right (Nat.le_refl _), Nat.sub_self] at e2
      cases e2
      exact ⟨hints hv, fun _ _ h => h⟩
theorem NBase.addFin {Wl W W2 : World} {Bd : Nat} {cv nv ev ev' : Value} {next : List (List Int)} {fin : List Bool} {o : Obj} {x : Bool} (h : NBase Wl Bd cv W next fin nv ev) (hbd : Bd < Wl.heap.size)
    (hown : W2.ownsRow Wl.heap.size 4 1 ev' (fin.length + 1) (fin.map Value.bool ++ [.bool x])) (hg : (W.alloc o).grownBy W2 ev.ownBlock) :
    NBase Wl Bd cv (W2.setCell ⟨Bd, 2, none⟩ ev') next (fin ++ [x]) nv ev' := by
  have hws := h.turn.size
  have hvs := h.fins
  have hd2 := h.dbox2 hbd hvs hg
  have htu : Turn (fun g => g = Bd ∨ ev.ownBlock = some g) W (W2.setCell ⟨Bd, 2, none⟩ ev') := (((Turn.refl _ W).alloc o).grown hg (fun g e => .inr e)).setCell (.inl rfl) _
  have hsame : ∀ g, g < W.heap.size → g ≠ Bd → ev.ownBlock ≠ some g → (W2.setCell ⟨Bd, 2, none⟩ ev').heap[g]? = W.heap[g]? := fun g hg h3 h4 => htu.block g hg fun h5 => h5.elim h3 h4
  refine ⟨h.turn.then htu fun g hg => ?_, three_set2 _ hd2, h.nxt.keep (fun g hl hg _ ht => hsame g hg (by omega) (fun e => ?_)) (fun _ _ h => h), ?_⟩
  · rcases hg with rfl | hg
    · exact .inl rfl
    · exact .inr (own_lt hvs hg).1
  · obtain ⟨cur, hc⟩ := own_tag hvs e
    have := ht _ _ _ hc
    revert this; decide
  · have := own_set (i := 2) (u := ev') hown hd2 (by decide)
    unfold OwnBools
    rw [List.length_append, List.map_append]
    exact this
theorem NBase.dfa {Wl W W' : World} {Bd R B D : Nat} {cv nv ev : Value} {next : List (List Int)} {fin : List Bool} {cl : List Int} (h : NBase Wl Bd cv W next fin nv ev) (hcl : OwnInts W D cv cl) (hB : B ≤ R) (hC : R < D) (hW : R < Wl.heap.size) (ht : Turn (fun g => g = R) W W') :
    DfaIn (fun g => B ≤ g ∧ g < W'.heap.size) W' cv nv ev ⟨cl, next, fin⟩ := by
  have kk : ∀ {base e n : Nat} {u : Value} {xs : List Value}, R < base → W.ownsRow base e 1 u n xs → W'.ownsRow base e 1 u n xs := fun hb hu => own_blk hu fun g hg => ht.block g (own_lt hu hg).2 (by have := (own_lt hu hg).1; omega)
  obtain ⟨vs, n1, n2, n3⟩ := h.nxt.ex
  refine ⟨?_, ?_, ?_⟩
  · exact (ints_of_own (kk hC hcl) (own_max hcl)).frame (fun g hg => ⟨by have := hg.1; omega, hg.2⟩) (fun _ _ _ => rfl)
  · exact (rows_of_own (kk hW n1) n2 (fun i v l e1 e2 => kk hW (n3 i v l e1 e2).1) (n2 ▸ own_max n1) (fun l hl => by
      obtain ⟨i, hi, rfl⟩ := List.getElem_of_mem hl
      exact own_max (n3 i _ _ (List.getElem?_eq_getElem (by omega)) (List.getElem?_eq_getElem hi)).1)).frame (fun g hg => ⟨by have := hg.1; omega, hg.2⟩) (fun _ _ _ => rfl)
  · exact (bools_of_own (kk hW h.fins) (own_max h.fins)).frame (fun g hg => ⟨by have := hg.1; omega, hg.2⟩) (fun _ _ _ => rfl)
theorem OfOut.of {w w' : World} {x : Except Int Dfa} {e : Ending} (h : OfPost w x e w') : OfOut w x e w' := of_out h
set_option maxRecDepth 100000 in
set_option maxHeartbeats 16000000 in
theorem bnot_any {F : Nat → Prop} {w : World} {a1 a2 a3 : Value} {a : Dfa} (ha : DfaIn F w a1 a2 a3 a) (hF : ∀ g, F g → g < w.heap.size) :
    Calls Tryd.prog 34 #[.agg #[a1, a2, a3]] w (OfOut w (notM a)) := by
  obtain ⟨W0, hW0⟩ : ∃ W0, W0 = (w.alloc (.cells #[a1, a2, a3] 30)).alloc (.cells #[.slice none 0 0, .slice none 0 0, .slice none 0 0] 30) := ⟨_, rfl⟩
  have hA0 : W0.heap[w.heap.size]? = some (.cells #[a1, a2, a3] 30 (0, 0)) := by rw [hW0]; exact (alloc_old (by simp)).trans (heap_alloc_new _ _)
  have hR0 : W0.heap[w.heap.size + 1]? = some (.cells #[.slice none 0 0, .slice none 0 0, .slice none 0 0] 30 (0, 0)) := by rw [hW0]; exact newB _ _ _
  have hB0 : Below w.heap.size w W0 := by rw [hW0]; exact ((Below.refl _ _).alloc (Nat.le_refl _) _).alloc (by simp) _
  have hz0 : W0.heap.size = w.heap.size + 2 := by rw [hW0]; simp
  have HBW := hid (fun (W : World) (h : Below W0.heap.size W0 W) => hB0.trans (h.mono hB0.size))
  have HAW := hid (fun (W : World) (h : Below W0.heap.size W0 W) => (show DfaIn F W a1 a2 a3 a from ha.frame (fun _ h => h) (fun g hg _ => (HBW.out W h).block g (hF g hg))))
  have HF := hid hF
  have HXA := hid (fun (W : World) (h : Below W0.heap.size W0 W) => (h.block w.heap.size (lt_of_heap hA0)).trans hA0)
  have HRW := hid (fun (W : World) (h : Below W0.heap.size W0 W) => (h.block (w.heap.size + 1) (lt_of_heap hR0)).trans hR0)
  have HTH := hid (fun (W W' : World) (h : Below W0.heap.size W0 W) (h' : Below W.heap.size W W') => h.trans (h'.mono h.size))
  obtain ⟨ada, cpa, rfl, hma, _⟩ := ha.cls
  obtain ⟨adb, cpb, rfl, hmb, _⟩ := ha.next
  obtain ⟨adc, cpc, rfl, hmc, _⟩ := ha.fin
  unfold maxLen at hma hmb hmc
  have HW0 := hid hW0
  have HZ0 := hid hz0
  clear ha hF hA0 hR0 hB0 hW0 hz0
  obtain ⟨q0, q1, q2⟩ := dcells (HXA.out W0 (Below.refl _ _))
  have hch := dfaCheck_any (HAW.out W0 (Below.refl _ _)) (fun g hg => Nat.lt_of_lt_of_le (HF.out g hg) (HBW.out W0 (Below.refl _ _)).size)
  go_enter Tryd.func34, Tryd.ntmps34
  go_upto_region 1 with fail
  rw [← HW0.out]
  cases hok : dfaOk a with
  | false =>
    have HNO := hid (not_bad (a := a) (by rw [hok]; decide))
    rw [errOf_false hok] at hch
    clear hok
    go_wp2_with fail
    refine hch.mono ?_
    clear hch q0 q1 q2
    rintro e w1 ⟨rfl, hb1⟩
    have H1 := hid (HTH.out _ _ (Below.refl _ _) hb1)
    have HRES := hid (HRW.out w1 H1.out)
    clear hb1
    go_wp2_with (refine wpList_store_same rfl 30 (.tmp 2) (.tmp 10) rfl 3 infoDfa (w.heap.size + 1) 30 _ HRES.out rfl (by rfl) (by rfl) rfl ?_)
    refine bodyPost_ret (results_cell_one (ty := 30) rfl _ _ (w.heap.size + 1) 30 _ (0, 0) _ rfl HRES.out Tryd.underlying30 rfl (by kernel_rfl)) rfl ?_
    rw [HNO.out]
    exact OfOut.of ⟨rfl, HBW.out _ H1.out⟩
  | true =>
    have HYES := hid (show notM a = .ok ⟨a.cls, a.next, a.fin.map (!·)⟩ by unfold notM; rw [if_pos hok])
    have HN1 := hid (show a.cls.length = 256 ∧ a.next.length ≤ 1024 ∧ a.fin.length = a.next.length ∧ ∀ row ∈ a.next, row.length ≤ 256 by
      obtain ⟨_, hm, h0, _, h2, h3, _, h4⟩ := dfaOk_parts hok
      exact ⟨h0, h2, h3, fun row hr => by rw [(h4 row hr).1]; exact parts_few hm⟩)
    rw [errOf_true hok] at hch
    clear hok
    go_wp2_with fail
    refine hch.mono ?_
    clear hch q0 q1 q2
    rintro e w1 ⟨rfl, hb1⟩
    have H1 := hid (HTH.out _ _ (Below.refl _ _) hb1)
    clear hb1
    obtain ⟨q0, q1, q2⟩ := dcells (HXA.out w1 H1.out)
    have hcl := clone_any (HAW.out w1 H1.out).cls (by have := HN1.out.1; omega)
    go_wp2_with fail
    refine hcl.mono ?_
    clear hcl q0 q1 q2
    rintro e w2 ⟨cv, rfl, hcv, hb2⟩
    obtain ⟨adv, cpv, rfl⟩ := own_shape hcv
    have H2 := hid (HTH.out _ _ H1.out hb2)
    have HCV := hid (own_mono hcv H1.out.size)
    clear hcv hb2
    go_upto_region 4 with fail
    obtain ⟨Wl, hWl⟩ : ∃ Wl, Wl = w2.alloc (.cells #[.slice adv a.cls.length cpv, .slice none 0 0, .slice none 0 0] 30) := ⟨_, rfl⟩
    have HBl := hid (show Below w2.heap.size w2 Wl by rw [hWl]; exact (Below.refl _ _).alloc (Nat.le_refl _) _)
    have HDl := hid (show Wl.heap[w2.heap.size]? = some (.cells #[.slice adv a.cls.length cpv, .slice none 0 0, .slice none 0 0] 30 (0, 0)) by rw [hWl]; exact heap_alloc_new _ _)
    have HZl := hid (show Wl.heap.size = w2.heap.size + 1 by rw [hWl]; simp)
    have Hl := hid (HTH.out _ _ H2.out HBl.out)
    have HCl := hid (own_later HCV.out HBl.out)
    have HCB := hid (fun (g : Nat) (hg : (Value.slice adv a.cls.length cpv).ownBlock = some g) => (own_lt HCV.out hg))
    have hbd0 : w.heap.size + 2 ≤ w2.heap.size := by have := H2.out.size; have := HZ0.out; omega
    rw [← hWl]
    clear hWl HBl HCV
    have hzl := HZl.out
    generalize w2.heap.size = Bd at *
    have hbd : Bd < Wl.heap.size := by omega
    have HXT := hid (fun (W : World) (h : Turn (fun g => g = Bd) Wl W) => (show W.heap[w.heap.size]? = some (.cells #[.slice ada a.cls.length cpa, .slice adb a.next.length cpb, .slice adc a.fin.length cpc] 30 (0, 0)) from (h.block _ (by omega) (fun e => by omega)).trans (HXA.out Wl Hl.out)))
    have HRT := hid (fun (W : World) (h : Turn (fun g => g = Bd) Wl W) => (show W.heap[w.heap.size + 1]? = some (.cells #[.slice none 0 0, .slice none 0 0, .slice none 0 0] 30 (0, 0)) from (h.block _ (by omega) (fun e => by omega)).trans (HRW.out Wl Hl.out)))
    have HAT := hid (fun (W : World) (h : Turn (fun g => g = Bd) Wl W) => (show DfaIn F W (.slice ada a.cls.length cpa) (.slice adb a.next.length cpb) (.slice adc a.fin.length cpc) a from (HAW.out Wl Hl.out).frame (fun _ h => h) (fun g hg hgl => h.block g hgl (fun e => by have := HF.out g hg; omega))))
    have HCT := hid (fun (W : World) (h : Turn (fun g => g = Bd) Wl W) => (show OwnInts W W0.heap.size (.slice adv a.cls.length cpv) a.cls from own_blk HCl.out (fun g hg => h.block g (by have := HCB.out g hg; omega) (fun e => by have := HCB.out g hg; omega))))
    have HBT := hid (fun (W : World) (h : Turn (fun g => g = Bd) Wl W) => (show Below w.heap.size w W from (HBW.out Wl Hl.out).trans (h.below (by omega) (fun g hg => by omega))))
    obtain ⟨iR, hi, hz0, hz1, hz2⟩ := info_parts infoR
    have HIR := hid hi
    have HZR := hid (And.intro hz0 (And.intro hz1 hz2))
    clear hi hz0 hz1 hz2
    obtain ⟨iB, hi, hz0, hz1, hz2⟩ := info_parts infoL
    have HIB := hid hi
    have HZB := hid (And.intro hz0 (And.intro hz1 hz2))
    clear hi hz0 hz1 hz2
    have HBL := hid (NBase.start HDl.out)
    obtain ⟨q0, q1, q2⟩ := dcells (HXT.out Wl (Turn.refl _ _))
    clear HAW HXA HRW HTH HBW HDl HZl HCl HCB H1 H2 Hl HW0
    go_wp2_with fail
    go_loopw [18] (fun i wr => ∃ (k : Nat) (nv ev : Value), k ≤ a.next.length ∧ i = .int .i64 k ∧ NBase Wl Bd (.slice adv a.cls.length cpv) wr (a.next.take k) ((a.fin.take k).map (!·)) nv ev) (fun i _ => a.next.length - (intOf i).toNat)
    case atStart => exact ⟨0, .slice none 0 0, .slice none 0 0, Nat.zero_le _, rfl, HBL.out⟩
    case round =>
      clear q0 q1 q2
      obtain ⟨k, nv, ev, hk, rfl, hbase⟩ := hrel
      have HB := hid hbase
      have HT := hid hbase.turn
      have hzw := hbase.turn.size
      clear hbase
      by_cases hlt : k < a.next.length
      · obtain ⟨g, off, v, rfl, hFg, x0, hv⟩ := rows_at (HAT.out wr HT.out).next hlt
        have hfl : k < a.fin.length := by have := HN1.out; omega
        obtain ⟨adr, cpr, rfl, hmr, _⟩ := id hv
        have HV := hid hv
        have HROW := hid (show a.next.take (k + 1) = a.next.take k ++ [a.next[k]] from take_succ' _ _ hlt)
        have HFIN := hid (show (a.fin.take (k + 1)).map (!·) = (a.fin.take k).map (!·) ++ [!a.fin[k]] by rw [take_succ' _ _ hfl, List.map_append]; rfl)
        have HLEN := hid (show (a.next.take k).length = k ∧ ((a.fin.take k).map (!·)).length = k by simp; omega)
        unfold maxLen at hmr
        have hrl : a.next[k].length ≤ 256 := HN1.out.2.2.2 _ (List.getElem_mem hlt)
        generalize a.next[k] = row at *
        generalize a.next.take k = nx at *
        generalize (a.fin.take k).map (!·) = fi at *
        have hfm : fi.length ≤ 1024 := by have h1 := HLEN.out.2; have := HN1.out; omega
        have hnm : nx.length ≤ 1024 := by have h1 := HLEN.out.1; have := HN1.out; omega
        clear hv
        go_upto_region 7 with fail
        have HBd := hid (HB.out.below ((Below.refl _ wr).drew))
        have HRV := hid (HV.out.frame (F' := F) (w' := wr.drew) (fun _ h => h) (fun _ _ _ => rfl))
        have hzd : wr.heap.size ≤ wr.drew.heap.size := Nat.le_refl _
        have HS := hid (show (fun W : World => W.cell? ⟨Bd, 1, none⟩ = some nv) wr.drew from cell_blk (i := 1) HBd.out.dbox rfl)
        refine Till.start (S := (fun W : World => W.cell? ⟨Bd, 1, none⟩ = some nv)) (n := 7) (by kernel_rfl) ?_
        generalize wr.drew = wd at *
        refine Till.take (i := 0) (v := .pointer (some ⟨Bd, 1, none⟩)) rfl (by kernel_rfl) (fun _ _ _ h => h) (Or.inl ⟨by rfl, fun w hS => by go_simp⟩) HS.out ?_
        simp only [Act.put, List.getElem_toArray, List.getElem_cons_zero, List.setIfInBounds_toArray, List.set_cons_zero, List.set_cons_succ]
        refine Till.take (i := 1) (v := nv) rfl (by kernel_rfl) (fun _ _ _ h => h) (Or.inl ⟨by rfl, fun w hS => by have k0 := hS; go_simp⟩) HS.out ?_
        simp only [Act.put, List.getElem_toArray, List.getElem_cons_zero, List.getElem_cons_succ, List.setIfInBounds_toArray, List.set_cons_zero, List.set_cons_succ]
        refine Till.take (i := 2) (v := .slice adr row.length cpr) rfl (by kernel_rfl) (fun _ _ _ h => h) (Or.inl ⟨by rfl, fun w hS => by go_simp⟩) HS.out ?_
        simp only [Act.put, List.getElem_toArray, List.getElem_cons_zero, List.getElem_cons_succ, List.setIfInBounds_toArray, List.set_cons_zero, List.set_cons_succ]
        refine Till.all (rs := [3]) (by kernel_rfl) (by simp) (Each.cons rfl (fun K hK => ?_) Each.nil)
        go_simp
        refine (clone_any HRV.out (by omega)).mono ?_
        rintro e' w5 ⟨cv2, rfl, hoc, hb5⟩
        obtain ⟨adc2, cp2, rfl⟩ := own_shape hoc
        have HB5 := hid (HBd.out.below hb5)
        have HOC := hid (show OwnInts w5 Wl.heap.size (.slice adc2 row.length cp2) row from own_mono hoc (by omega))
        have HS5 := hid (show (fun W : World => W.cell? ⟨Bd, 1, none⟩ = some nv) w5 from cell_blk (i := 1) HB5.out.dbox rfl)
        have hz5 := HB5.out.turn.size
        refine hK.out _ _ (fun _ => HS5.out) ?_
        clear hK K hoc hb5
        refine Till.all (rs := [4]) (by kernel_rfl) (by simp) (Each.cons rfl (fun K hK => ?_) Each.nil)
        go_simp
        refine hK.out _ _ (fun _ => (cell_heap (alloc_old (by omega))).trans HS5.out) ?_
        clear hK K
        refine Till.all (rs := [5]) (by kernel_rfl) (by simp) (Each.cons rfl (fun K hK => ?_) Each.nil)
        obtain ⟨vs, hvs, hvl, hvr⟩ := HB5.out.nxt.ex
        obtain ⟨adn, cpn, rfl⟩ := own_shape hvs
        have HVS := hid hvs
        have HVL := hid hvl
        have HVR := hid hvr
        have hvm : vs.length ≤ 1024 := by have h1 := HVL.out; omega
        refine step_append rfl (.tmp 24) (.tmp 27) 27 rfl Wl.heap.size 22 iR (.slice none 0 0) 1 24 Tryd.underlying27 HIR.out HZR.out.1 HZR.out.2.1 HZR.out.2.2 rfl (by decide) (.slice adn vs.length cpn) vs.length vs (by rfl) (HVS.out.alloc _) ⟨w5.heap.size, 0, none⟩ 1 1 [.slice adc2 row.length cp2] (by rfl) rfl (cell_one_new _ _ _) (one_cell_one rfl) (by unfold maxLen; omega) (by omega) (by simp; omega) ?_
        intro nv' w8 ho8 hg8 _
        obtain ⟨adn', cpn', rfl⟩ := own_shape ho8
        have HO8 := hid ho8
        have HG8 := hid hg8
        have hd8 := HB5.out.dbox2 hbd HVS.out hg8
        have y1 := cell_blk (i := 1) hd8 rfl
        have y2 := free_box (i := 1) hd8
        have HS8 := hid y1
        refine hK.out _ _ (fun _ => HS8.out) ?_
        clear hK K ho8 hg8 hd8 hvs hvl hvr
        simp only [Act.put, List.getElem_toArray, List.getElem_cons_zero, List.getElem_cons_succ, List.setIfInBounds_toArray, List.set_cons_zero, List.set_cons_succ]
        refine Till.take (i := 6) (v := .pointer (some ⟨Bd, 1, none⟩)) rfl (by kernel_rfl) (fun _ _ _ h => h) (Or.inl ⟨by rfl, fun w hS => by go_simp⟩) HS8.out ?_
        simp only [Act.put, List.getElem_toArray, List.getElem_cons_zero, List.getElem_cons_succ, List.setIfInBounds_toArray, List.set_cons_zero, List.set_cons_succ]
        refine Till.all (rs := [7]) (by kernel_rfl) (by simp) (Each.cons rfl (fun K hK => ?_) Each.nil)
        go_simp
        refine hK.out _ _ (fun h => absurd h (by decide)) ?_
        clear hK K
        refine Till.done (by kernel_rfl) ?_ _
        have HB6 := hid (HB5.out.addNext hbd HVS.out HVL.out HVR.out (l := row) HOC.out HO8.out HG8.out)
        generalize w8.setCell ⟨Bd, 1, none⟩ (.slice adn' (vs.length + 1) cpn') = w6 at *
        clear HB5 HVS HVL HVR HOC HO8 HG8 HBd HRV hzd y1 y2 HS HS8
        have HT6 := hid HB6.out.turn
        obtain ⟨gb, ob, hgb0, hgb1, v5⟩ := bools_at (HAT.out w6 HT6.out).fin hfl
        subst hgb0
        have hgb : gb < w.heap.size := HF.out gb hgb1
        generalize a.fin[k] = fx at *
        have v0 := cell_blk (i := 2) HB6.out.dbox rfl
        have v2 := cell_blk (i := 2) (HXT.out w6 HT6.out) rfl
        obtain ⟨ade, cpe, rfl⟩ := own_shape HB6.out.fins
        go_upto_region 8 with fail
        have HKQ := hid (fun (W : World) (h : ∀ g, g < Wl.heap.size → W.heap[g]? = w6.heap[g]?) => (show (fun W : World => W.cell? ⟨Bd, 2, none⟩ = some (.slice ade fi.length cpe) ∧ W.cell? ⟨w.heap.size, 2, none⟩ = some (.slice (some ⟨gb, ob, none⟩) a.fin.length cpc) ∧ W.cell? ⟨gb, ob + k, none⟩ = some (.bool fx)) W from ⟨(cell_heap (h _ hbd)).trans v0, (cell_heap (h _ (by omega))).trans v2, (cell_heap (h _ (by omega))).trans v5⟩))
        have HB7 := hid (HB6.out.below ((Below.refl _ w6).drew))
        have HS := hid (HKQ.out w6.drew (fun _ _ => rfl))
        have HK0 := hid (show ∀ g, g < Wl.heap.size → w6.drew.heap[g]? = w6.heap[g]? from fun _ _ => rfl)
        refine Till.start (S := (fun W : World => W.cell? ⟨Bd, 2, none⟩ = some (.slice ade fi.length cpe) ∧ W.cell? ⟨w.heap.size, 2, none⟩ = some (.slice (some ⟨gb, ob, none⟩) a.fin.length cpc) ∧ W.cell? ⟨gb, ob + k, none⟩ = some (.bool fx))) (n := 11) (by kernel_rfl) ?_
        clear v0 v2 v5
        generalize w6.drew = wd at *
        refine Till.take (i := 0) (v := .pointer (some ⟨Bd, 2, none⟩)) rfl (by kernel_rfl) (fun _ _ _ h => h) (Or.inl ⟨by rfl, fun w hS => by go_simp⟩) HS.out ?_
        simp only [Act.put, List.getElem_toArray, List.getElem_cons_zero, List.setIfInBounds_toArray, List.set_cons_zero, List.set_cons_succ]
        refine Till.take (i := 1) (v := .slice ade fi.length cpe) rfl (by kernel_rfl) (fun _ _ _ h => h) (Or.inl ⟨by rfl, fun w hS => by have k0 := hS.1; have k1 := hS.2.1; have k2 := hS.2.2; go_simp⟩) HS.out ?_
        simp only [Act.put, List.getElem_toArray, List.getElem_cons_zero, List.getElem_cons_succ, List.setIfInBounds_toArray, List.set_cons_zero, List.set_cons_succ]
        refine Till.take (i := 2) (v := .pointer (some ⟨w.heap.size, 2, none⟩)) rfl (by kernel_rfl) (fun _ _ _ h => h) (Or.inl ⟨by rfl, fun w hS => by go_simp⟩) HS.out ?_
        simp only [Act.put, List.getElem_toArray, List.getElem_cons_zero, List.getElem_cons_succ, List.setIfInBounds_toArray, List.set_cons_zero, List.set_cons_succ]
        refine Till.take (i := 3) (v := .slice (some ⟨gb, ob, none⟩) a.fin.length cpc) rfl (by kernel_rfl) (fun _ _ _ h => h) (Or.inl ⟨by rfl, fun w hS => by have k0 := hS.1; have k1 := hS.2.1; have k2 := hS.2.2; go_simp⟩) HS.out ?_
        simp only [Act.put, List.getElem_toArray, List.getElem_cons_zero, List.getElem_cons_succ, List.setIfInBounds_toArray, List.set_cons_zero, List.set_cons_succ]
        refine Till.take (i := 4) (v := .int .i64 k) rfl (by kernel_rfl) (fun _ _ _ h => h) (Or.inl ⟨by rfl, fun w hS => by go_simp⟩) HS.out ?_
        simp only [Act.put, List.getElem_toArray, List.getElem_cons_zero, List.getElem_cons_succ, List.setIfInBounds_toArray, List.set_cons_zero, List.set_cons_succ]
        refine Till.take (i := 5) (v := .pointer (some ⟨gb, ob + k, none⟩)) rfl (by kernel_rfl) (fun _ _ _ h => h) (Or.inl ⟨by rfl, fun w hS => by go_simp⟩) HS.out ?_
        simp only [Act.put, List.getElem_toArray, List.getElem_cons_zero, List.getElem_cons_succ, List.setIfInBounds_toArray, List.set_cons_zero, List.set_cons_succ]
        refine Till.take (i := 6) (v := .bool fx) rfl (by kernel_rfl) (fun _ _ _ h => h) (Or.inl ⟨by rfl, fun w hS => by have k0 := hS.1; have k1 := hS.2.1; have k2 := hS.2.2; go_simp⟩) HS.out ?_
        simp only [Act.put, List.getElem_toArray, List.getElem_cons_zero, List.getElem_cons_succ, List.setIfInBounds_toArray, List.set_cons_zero, List.set_cons_succ]
        refine Till.take (i := 7) (v := .bool (!fx)) rfl (by kernel_rfl) (fun _ _ _ h => h) (Or.inl ⟨by rfl, fun w hS => by go_simp⟩) HS.out ?_
        simp only [Act.put, List.getElem_toArray, List.getElem_cons_zero, List.getElem_cons_succ, List.setIfInBounds_toArray, List.set_cons_zero, List.set_cons_succ]
        refine Till.all (rs := [8]) (by kernel_rfl) (by simp) (Each.cons rfl (fun K hK => ?_) Each.nil)
        go_simp
        have hz7 := HB7.out.turn.size
        refine hK.out _ _ (fun _ => HKQ.out _ (fun g hg => (alloc_old (by omega)).trans (HK0.out g hg))) ?_
        clear hK K
        refine Till.all (rs := [9]) (by kernel_rfl) (by simp) (Each.cons rfl (fun K hK => ?_) Each.nil)
        refine step_append rfl (.tmp 31) (.tmp 38) 28 rfl Wl.heap.size 4 iB (.bool false) 1 1 Tryd.underlying28 HIB.out HZB.out.1 HZB.out.2.1 HZB.out.2.2 rfl (by decide) (.slice ade fi.length cpe) fi.length (fi.map Value.bool) (by rfl) (HB7.out.fins.alloc _) ⟨wd.heap.size, 0, none⟩ 1 1 [.bool (!fx)] (by rfl) rfl (cell_one_new _ _ _) (one_cell_one rfl) (by unfold maxLen; omega) (by omega) (by simp; omega) ?_
        intro ev' w9 ho9 hg9 _
        obtain ⟨ade', cpe', rfl⟩ := own_shape ho9
        have HO9 := hid ho9
        have HG9 := hid hg9
        have hd9 := HB7.out.dbox2 hbd HB7.out.fins hg9
        have y1 := cell_blk (i := 2) hd9 rfl
        have y2 := free_box (i := 2) hd9
        have HS9 := hid (HKQ.out w9 (fun g hg => (hg9.block g (by simp; omega) (fun e => by have := (HB7.out.fins.lt _ e.symm).1; omega)).trans ((alloc_old (by omega)).trans (HK0.out g hg))))
        refine hK.out _ _ (fun _ => HS9.out) ?_
        clear hK K ho9 hg9 hd9
        simp only [Act.put, List.getElem_toArray, List.getElem_cons_zero, List.getElem_cons_succ, List.setIfInBounds_toArray, List.set_cons_zero, List.set_cons_succ]
        refine Till.take (i := 10) (v := .pointer (some ⟨Bd, 2, none⟩)) rfl (by kernel_rfl) (fun _ _ _ h => h) (Or.inl ⟨by rfl, fun w hS => by go_simp⟩) HS9.out ?_
        simp only [Act.put, List.getElem_toArray, List.getElem_cons_zero, List.getElem_cons_succ, List.setIfInBounds_toArray, List.set_cons_zero, List.set_cons_succ]
        refine Till.all (rs := [11]) (by kernel_rfl) (by simp) (Each.cons rfl (fun K hK => ?_) Each.nil)
        go_simp
        refine hK.out _ _ (fun h => absurd h (by decide)) ?_
        clear hK K
        refine Till.done (by kernel_rfl) ?_ _
        have HB9 := hid (HB7.out.addFin hbd (x := !fx) HO9.out HG9.out)
        go_wp2_with fail
        refine And.intro ?_ ?_
        · exact ⟨k + 1, _, _, by omega, by go_num, by rw [HROW.out, HFIN.out]; exact HB9.out⟩
        · simp [intOf]; omega
      · obtain rfl : k = a.next.length := by omega
        have hb0 := HB.out
        rw [List.take_length, ← HN1.out.2.2.1, List.take_length] at hb0
        have HB0 := hid hb0
        clear hb0
        obtain ⟨vs, hvs, hvl, _⟩ := HB0.out.nxt.ex
        obtain ⟨adn, cpn, rfl⟩ := own_shape hvs
        obtain ⟨ade, cpe, rfl⟩ := own_shape HB0.out.fins
        have HTU := hid (show Turn (fun g => g = w.heap.size + 1) wr (wr.setRow (w.heap.size + 1) #[.slice adv a.cls.length cpv, .slice adn vs.length cpn, .slice ade (a.fin.map (!·)).length cpe]) from turn_setRow (S := fun g => g = w.heap.size + 1) rfl _)
        have H1 := hid (setRow_heap (HRT.out wr HT.out) #[.slice adv a.cls.length cpv, .slice adn vs.length cpn, .slice ade (a.fin.map (!·)).length cpe])
        have HDF := hid (HB0.out.dfa (B := w.heap.size) (HCT.out wr HT.out) (Nat.le_succ _) (by have := HZ0.out; omega) (by omega) HTU.out)
        have HBE := hid ((HBT.out wr HT.out).trans (HTU.out.below (by omega) (fun g hg => by omega)))
        clear hvs hvl
        go_upto_region 10 with fail
        go_step
        refine wpList_load_blk rfl 30 (.tmp 4) rfl 3 infoDfa _ Tryd.underlying30 rfl Bd rfl 30 _ HB0.out.dbox rfl ?_
        refine wpList_store_blk rfl 30 (.tmp 2) (.tmp 42) rfl 3 infoDfa (w.heap.size + 1) 30 _ (HRT.out wr HT.out) rfl #[.slice adv a.cls.length cpv, .slice adn vs.length cpn, .slice ade (a.fin.map (!·)).length cpe] (by rfl) (by rfl) rfl rfl ?_
        generalize wr.setRow (w.heap.size + 1) #[.slice adv a.cls.length cpv, .slice adn vs.length cpn, .slice ade (a.fin.map (!·)).length cpe] = W5 at *
        go_wp2_with fail
        refine bodyPost_ret (results_cell_one (ty := 30) rfl _ _ (w.heap.size + 1) 30 _ (0, 0) _ rfl H1.out Tryd.underlying30 rfl (by kernel_rfl)) rfl ?_
        rw [HYES.out]
        exact OfOut.of ⟨_, _, _, rfl, HDF.out, HBE.out⟩
end Go.Proofs.YtfjomnhdmkbkiaaDoor.Im

namespace Go.Proofs.YtfjomnhdmkbkiaaDoor.Im
open Go.RowKit Go.Lib Go.Maps Go.Shelf

def exN2 : Nfa := ⟨2, [0], [1], textFrom 0 [97]⟩
def exD2 : Dfa := ⟨List.replicate 97 0 ++ [1] ++ List.replicate 158 0, [[1,2],[1,1],[1,1]], [false,false,true]⟩
def exX2 : Dfa := ⟨List.replicate 97 0 ++ [1] ++ List.replicate 158 0, [[1,2],[1,1],[1,1]], [true,true,false]⟩
theorem text_exN2 : (⟨(([97] : List B).length : Int) + 1, [0], [(([97] : List B).length : Int)], textFrom 0 [97]⟩ : Nfa) = exN2 := rfl
set_option maxRecDepth 100000 in
theorem ofM_ex2 : ofM exN2 = .ok exD2 := okIs_eq (by decide +kernel)
theorem notM_ex2 : notM exD2 = .ok exX2 := okIs_eq (by decide +kernel)
theorem tk3 : takesM exX2 [98] = (true, 0) := by decide +kernel
theorem tk4 : takesM exX2 [97] = (false, 0) := by decide +kernel
/-- an automaton in a box; all of it below L -/
structure ABox (L : Nat) (W : World) (g : Nat) (x1 : Option Addr) (c1 : Nat) (x2 : Option Addr) (c2 : Nat) (x3 : Option Addr) (c3 : Nat) (d : Dfa) : Prop where
  box : W.heap[g]? = some (.cells #[.slice x1 d.cls.length c1, .slice x2 d.next.length c2, .slice x3 d.fin.length c3] 30 (0, 0))
  lt : g < L
  dfa : DfaIn (fun q => q < L) W (.slice x1 d.cls.length c1) (.slice x2 d.next.length c2) (.slice x3 d.fin.length c3) d
  le : L ≤ W.heap.size
theorem ABox.below {L : Nat} {W W' : World} {g c1 c2 c3 : Nat} {x1 x2 x3 : Option Addr} {d : Dfa} (h : ABox L W g x1 c1 x2 c2 x3 c3 d) (k : Below L W W') : ABox L W' g x1 c1 x2 c2 x3 c3 d :=
  ⟨(k.block _ h.lt).trans h.box, h.lt, h.dfa.frame (fun _ h => h) (fun q hq _ => k.block q hq), Nat.le_trans h.le k.size⟩
theorem ABox.cells {L : Nat} {W : World} {g c1 c2 c3 : Nat} {x1 x2 x3 : Option Addr} {d : Dfa} (h : ABox L W g x1 c1 x2 c2 x3 c3 d) : W.cell? ⟨g, 0, none⟩ = some (.slice x1 d.cls.length c1) ∧ W.cell? ⟨g, 1, none⟩ = some (.slice x2 d.next.length c2) ∧ W.cell? ⟨g, 2, none⟩ = some (.slice x3 d.fin.length c3) := dcells h.box
theorem ABox.fits {L : Nat} {W : World} {g c1 c2 c3 : Nat} {x1 x2 x3 : Option Addr} {d : Dfa} (h : ABox L W g x1 c1 x2 c2 x3 c3 d) : ∀ q, q < L → q < W.heap.size := fun _ hq => Nat.lt_of_lt_of_le hq h.le
theorem ABox.new {w : World} {B c1 c2 c3 : Nat} {x1 x2 x3 : Option Addr} {d : Dfa} (h : DfaIn (fun q => B ≤ q ∧ q < w.heap.size) w (.slice x1 d.cls.length c1) (.slice x2 d.next.length c2) (.slice x3 d.fin.length c3) d) :
    ABox (w.heap.size + 1) (w.alloc (.cells #[.slice x1 d.cls.length c1, .slice x2 d.next.length c2, .slice x3 d.fin.length c3] 30)) w.heap.size x1 c1 x2 c2 x3 c3 d :=
  ⟨heap_alloc_new _ _, Nat.lt_succ_self _, h.frame (fun q hq => Nat.lt_succ_of_lt hq.2) (fun q hq hl => alloc_old hl), by rw [World.size_alloc]; exact Nat.le_refl _⟩
/-- what came in, in its box -/
theorem ABox.arg {F : Nat → Prop} {w W : World} {g c1 c2 c3 : Nat} {x1 x2 x3 : Option Addr} {d : Dfa} {L : Nat} (h : DfaIn F w (.slice x1 d.cls.length c1) (.slice x2 d.next.length c2) (.slice x3 d.fin.length c3) d) (hF : ∀ q, F q → q < w.heap.size) (hb : Below w.heap.size w W) (hg : W.heap[g]? = some (.cells #[.slice x1 d.cls.length c1, .slice x2 d.next.length c2, .slice x3 d.fin.length c3] 30 (0, 0))) (hL : g < L) (hwL : w.heap.size ≤ L) (hLW : L ≤ W.heap.size) :
    ABox L W g x1 c1 x2 c2 x3 c3 d :=
  ⟨hg, hL, h.frame (fun q hq => Nat.lt_of_lt_of_le (hF q hq) hwL) (fun q hq _ => hb.block q (hF q hq)), hLW⟩
/-- what is handed back, opened -/
theorem OfOut.open' {w w' : World} {x : Except Int Dfa} {e : Ending} (h : OfOut w x e w') : ∃ x1 c1 x2 c2 x3 c3, e = .returned (.tuple #[.agg #[.slice x1 (outX x).1.cls.length c1, .slice x2 (outX x).1.next.length c2, .slice x3 (outX x).1.fin.length c3], .int .i64 (outX x).2]) ∧ DfaIn (fun g => w.heap.size ≤ g ∧ g < w'.heap.size) w' (.slice x1 (outX x).1.cls.length c1) (.slice x2 (outX x).1.next.length c2) (.slice x3 (outX x).1.fin.length c3) (outX x).1 ∧ Below w.heap.size w w' := by
  obtain ⟨a, b, c, rfl, hd, hb⟩ := h
  obtain ⟨x1, c1, rfl, _, _⟩ := hd.cls
  obtain ⟨x2, c2, rfl, _, _⟩ := hd.next
  obtain ⟨x3, c3, rfl, _, _⟩ := hd.fin
  exact ⟨x1, c1, x2, c2, x3, c3, rfl, hd, hb⟩
set_option maxRecDepth 100000 in
set_option maxHeartbeats 4000000 in
theorem awake12_any (w : World) (hT : Tab w) : Calls Tryd.prog 36 #[] w (AwPost w) := by
  have HT := hid hT
  clear hT
  go_enter Tryd.func36, Tryd.ntmps36
  go_wp2_with fail
  have htx := text_any [97] w (by decide)
  rw [text_exN2] at htx
  refine htx.mono ?_
  clear htx
  rintro e w1 hp1
  obtain ⟨s1, a1, b1, c1, rfl, hn1, hb1⟩ := hp1
  obtain rfl : s1 = .int .i64 2 := hn1.states
  obtain ⟨ada, cpa, ea, _, _⟩ := hn1.starts
  obtain rfl : a1 = .slice ada 1 cpa := ea
  obtain ⟨adb, cpb, eb, _, _⟩ := hn1.ends
  obtain rfl : b1 = .slice adb 1 cpb := eb
  obtain ⟨adc, cpc, ec, _, _⟩ := hn1.edges
  obtain rfl : c1 = .slice adc 1 cpc := ec
  have HN1 := hid hn1
  have HB1 := hid hb1
  clear hn1 hb1
  go_upto_region 2 with fail
  generalize hW2 : w1.alloc (.cells #[.int .i64 2, .slice ada 1 cpa, .slice adb 1 cpb, .slice adc 1 cpc] 25) = w2
  have HX2 := hid (show w2.heap[w1.heap.size]? = some (.cells #[.int .i64 2, .slice ada 1 cpa, .slice adb 1 cpb, .slice adc 1 cpc] 25 (0, 0)) by rw [← hW2]; exact heap_alloc_new _ _)
  have HB2 := hid (show Below w.heap.size w w2 by rw [← hW2]; exact HB1.out.alloc HB1.out.size _)
  have HZ2 := hid (show w2.heap.size = w1.heap.size + 1 by rw [← hW2, World.size_alloc])
  have HN2 := hid (HN1.out.frame (w' := w2) (F' := fun g => w.heap.size ≤ g ∧ g < w1.heap.size) (fun _ h => h) (fun g hg _ => by rw [← hW2]; exact alloc_old hg.2))
  clear hW2 HN1
  obtain ⟨q0, q1, q2, q3⟩ := ncells HX2.out
  have hof := of_any HN2.out (fun g hg => by have := hg.2; have := HZ2.out; omega) (HT.out.below (HB2.out.mono (Nat.le_refl _))) (text_ok [97] 0)
  go_wp2_with fail
  refine hof.mono ?_
  clear hof
  rintro e w3 hp3
  obtain ⟨x1, c1, x2, c2, x3, c3, rfl, hd3, hb3⟩ := (OfOut.of hp3).open'
  rw [show outX (ofM exN2) = (exD2, 0) by rw [ofM_ex2]; rfl] at hd3 ⊢
  have HE2 := hid (show notM exD2 = .ok exX2 from notM_ex2)
  generalize exD2 = d2 at *
  have HD3 := hid hd3
  have HB3 := hid (HB2.out.trans (hb3.mono HB2.out.size))
  clear hd3 q0 q1 q2 q3 hb3 hp3
  dsimp only
  go_upto_region 3 with fail
  have hA4 := ABox.new HD3.out
  generalize hW4 : w3.alloc (.cells #[.slice x1 d2.cls.length c1, .slice x2 d2.next.length c2, .slice x3 d2.fin.length c3] 30) = w4 at *
  have HA4 := hid hA4
  have HB4 := hid (show Below w.heap.size w w4 by rw [← hW4]; exact HB3.out.alloc HB3.out.size _)
  clear hW4 HD3 hA4
  obtain ⟨q0, q1, q2⟩ := HA4.out.cells
  have hnt := bnot_any HA4.out.dfa HA4.out.fits
  go_wp2_with fail
  refine hnt.mono ?_
  clear hnt q0 q1 q2
  rintro e w5 hp5
  obtain ⟨y1, e1, y2, e2, y3, e3, rfl, hd5, hb5⟩ := hp5.open'
  rw [show outX (notM d2) = (exX2, 0) by rw [HE2.out]; rfl] at hd5 ⊢
  have HT3 := hid (show takesM exX2 [98] = (true, 0) from tk3)
  have HT4 := hid (show takesM exX2 [97] = (false, 0) from tk4)
  generalize exX2 = x at *
  have HD5 := hid hd5
  have HB5 := hid (HB4.out.trans (hb5.mono HB4.out.size))
  clear hd5 hb5 hp5
  dsimp only
  go_upto_region 4 with fail
  have hA6 := ABox.new HD5.out
  generalize hW6 : w5.alloc (.cells #[.slice y1 x.cls.length e1, .slice y2 x.next.length e2, .slice y3 x.fin.length e3] 30) = w6 at *
  have HA6 := hid hA6
  have HB6 := hid (show Below w.heap.size w w6 by rw [← hW6]; exact HB5.out.alloc HB5.out.size _)
  clear hW6 HD5 hA6
  obtain ⟨q0, q1, q2⟩ := HA6.out.cells
  have htk := takes_any HA6.out.dfa HA6.out.fits ⟨#[98]⟩ (by decide)
  rw [show (⟨#[98]⟩ : ByteArray).data.toList = [98] from rfl, HT3.out] at htk
  go_wp2_with fail
  refine htk.mono ?_
  clear htk q0 q1 q2
  rintro e w7 ⟨rfl, hb7⟩
  have HA7 := hid (HA6.out.below (hb7.mono HA6.out.le))
  have HB7 := hid (HB6.out.trans (hb7.mono HB6.out.size))
  clear hb7
  obtain ⟨q0, q1, q2⟩ := HA7.out.cells
  have htk := takes_any HA7.out.dfa HA7.out.fits ⟨#[97]⟩ (by decide)
  rw [show (⟨#[97]⟩ : ByteArray).data.toList = [97] from rfl, HT4.out] at htk
  go_wp2_with fail
  refine htk.mono ?_
  clear htk q0 q1 q2
  rintro e w8 ⟨rfl, hb8⟩
  have HB8 := hid (HB7.out.trans (hb8.mono HB7.out.size))
  clear hb8
  go_wp2_with fail
  go_ret
  exact ⟨rfl, HB8.out⟩
end Go.Proofs.YtfjomnhdmkbkiaaDoor.Im

namespace Go.Proofs.YtfjomnhdmkbkiaaDoor.Im
open Go.RowKit Go.Lib Go.Maps Go.Shelf

/-- a truth, and what it says if it is true -/
def FewD (d : Dfa) (e : Ending) : Prop := ∃ x : Bool, e = .returned (.bool x) ∧ (x = true → d.next.length ≤ 40 ∧ ∀ row ∈ d.next, row.length ≤ 20)
theorem FewD.no (d : Dfa) : FewD d (.returned (.bool false)) := ⟨false, rfl, fun h => by cases h⟩
theorem FewD.yes {d : Dfa} (x : Bool) (h1 : d.next.length ≤ 40) (h2 : ∀ row ∈ d.next, row.length ≤ 20) : FewD d (.returned (.bool x)) := ⟨x, rfl, fun _ => ⟨h1, h2⟩⟩
theorem few_takeD {d : Dfa} {k : Nat} (hk : k < d.next.length) (h : ∀ row ∈ d.next.take k, row.length ≤ 20) (hx : ¬ 20 < d.next[k].length) : ∀ row ∈ d.next.take (k + 1), row.length ≤ 20 := fun row hr => by
  rw [take_succ' _ _ hk] at hr
  rcases List.mem_append.1 hr with hr | hr
  · exact h row hr
  · rw [List.mem_singleton.1 hr]; omega
set_option maxRecDepth 100000 in
set_option maxHeartbeats 4000000 in
theorem few_shows {F : Nat → Prop} {w : World} {a b c : Value} {d : Dfa} (hd : DfaIn F w a b c d) (hF : ∀ g, F g → g < w.heap.size) :
    Calls Tryd.prog 17 #[.agg #[a, b, c]] w fun e w' => FewD d e ∧ Below w.heap.size w w' := by
  generalize hW0 : w.alloc (.cells #[a, b, c] 30) = W0
  have hDb : W0.heap[w.heap.size]? = some (.cells #[a, b, c] 30 (0, 0)) := by rw [← hW0]; exact heap_alloc_new _ _
  have hB0 : Below w.heap.size w W0 := by rw [← hW0]; exact (Below.refl _ _).alloc (Nat.le_refl _) _
  have HB0 := hid hB0
  have HN := hid (hd.next.frame (F' := F) (w' := W0) (fun _ h => h) (fun g hg _ => HB0.out.block g (hF g hg)))
  obtain ⟨ad1, cp1, rfl, hm1, _⟩ := hd.cls
  obtain ⟨ad2, cp2, rfl, hm2, _⟩ := hd.next
  obtain ⟨ad3, cp3, rfl, hm3, _⟩ := hd.fin
  have HDB := hid hDb
  clear hDb hB0 hd hF
  unfold maxLen at hm1 hm2 hm3
  obtain ⟨q0, q1, q2⟩ := dcells HDB.out
  go_enter Tryd.func17, Tryd.ntmps17
  go_wp2_with fail
  go_loop [3] (fun v => ∃ k : Nat, k ≤ d.next.length ∧ v = .int .i64 k ∧ Hid (∀ row ∈ d.next.take k, row.length ≤ 20)) (fun v => d.next.length - (intOf v).toNat)
  case atStart => exact ⟨0, Nat.zero_le _, rfl, hid (by simp)⟩
  case round =>
    obtain ⟨k, hk, rfl, hall⟩ := hrel
    by_cases hlt : k < d.next.length
    · by_cases h40 : d.next.length ≤ 40
      · obtain ⟨g, off, v, rfl, _, x1, hrow⟩ := rows_at HN.out hlt
        obtain ⟨adr, cpr, rfl, hmr, _⟩ := hrow
        unfold maxLen at hmr
        by_cases h20 : 20 < d.next[k].length
        · go_wp2_with fail
          go_ret
          exact ⟨FewD.no d, HB0.out⟩
        · have HNX := hid (few_takeD hlt hall.out h20)
          go_wp2_with fail
          go_round
          case rel => exact ⟨k + 1, by omega, by go_num, HNX⟩
          case measure => simp [intOf]; omega
      · go_wp2_with fail
        go_ret
        exact ⟨FewD.no d, HB0.out⟩
    · obtain rfl : k = d.next.length := by omega
      rw [List.take_length] at hall
      by_cases h40 : d.next.length ≤ 40
      · have HY := hid (fun x => FewD.yes x h40 hall.out)
        go_wp2_with fail
        go_ret
        exact ⟨HY.out _, HB0.out⟩
      · go_wp2_with fail
        go_ret
        exact ⟨FewD.no d, HB0.out⟩
end Go.Proofs.YtfjomnhdmkbkiaaDoor.Im
