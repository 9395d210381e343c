/-
  An image that came in: how long its transducers' rows are, by the form's own reach.
-/
import Derived.Test.YtdokeelodcckoaaImgOp
import Derived.Test.YtdokeelodcckoaaRg5
import Derived.SizedLaws
namespace Go.Proofs.Ytdokeelodcckoaa.Im
open Go.RowKit Go.Lib

theorem mem_weightsAll {H : Type} {P : Program} {e : TypeId} : ∀ {l : List (DataW H)} {d : DataW H}, d ∈ l → ∀ m ∈ d.weights P e, m ∈ DataW.weightsAll P e l
  | [], _, h, _, _ => by cases h
  | x :: l, d, h, m, hm => by
    simp only [DataW.weightsAll, List.mem_append]
    rcases List.mem_cons.1 h with rfl | h
    · exact .inl hm
    · exact .inr (mem_weightsAll h m hm)
section
variable {H : Type} {enc : TypeId × Value → H} {w : World} {spare : Nat → Bool} {held : Bool} {fuel : Nat} {cs : List Value} {x : DataW H × List MemPlace}
abbrev InReach (T : TypeId) (d : DataW H) : Prop := ∀ m ∈ d.weights Try.prog T, m ≤ reachBytes
theorem len_of_trod {T E : TypeId} {k : Nat} (ht : Try.prog.underlying T = some (.slice E)) (hk : Try.prog.bytesOf E = k) (hk0 : 0 < k) {v : Value} (h : DataW.trod enc Try.prog w 0 spare held fuel T [v] = some x) (hw : InReach T x.1) {ad : Option Addr} {n cap : Nat} (hv : v = .slice ad n cap) : n ≤ reachBytes := by
  subst hv
  rcases Go.Deep.open_slice ht h with ⟨e, _⟩ | ⟨a, len, cap', m, n', D, Pl, e, _, hl, hm, hmm, rfl, hx⟩
  · cases e
    exact Nat.zero_le _
  · cases e
    have h1 := hw _ (show (((List.range n).map D).length + ((List.range (m - n)).map fun j => D (n + j)).length) * Try.prog.bytesOf E ∈ _ by simp only [DataW.weights, ht]; exact List.mem_cons_self ..)
    rw [hk] at h1
    simp only [List.length_map, List.length_range] at h1
    have : n ≤ (n + (m - n)) * k := Nat.le_trans (Nat.le_add_right n (m - n)) (Nat.le_mul_of_pos_right _ hk0)
    omega
theorem fld_reach {t : TypeId} {fs : Array Field} (ht : Try.prog.underlying t = some (.struct fs)) (h : DataW.trod enc Try.prog w 0 spare held fuel t cs = some x) (hw : InReach t x.1) :
    ∃ n, ∀ (i : Nat) (f : Field), fs[i]? = some f → ∃ y, DataW.trod enc Try.prog w 0 spare held n f.type ((cs.drop f.offset).take (Try.prog.cellsOf f.type)) = some y ∧ InReach f.type y.1 := by
  obtain ⟨xs, n, _, rfl, h1, h2, h3⟩ := DataW.trod_struct ht h
  refine ⟨n, fun i f hf => ?_⟩
  have hi := (Array.getElem?_eq_some_iff.1 hf).1
  refine ⟨xs[i], by rw [h3 i f hf, List.getElem?_eq_getElem], fun m hm => hw m ?_⟩
  simp only [DataW.weights, ht]
  refine DataW.weights_mem_each (j := i) (t := f.type) (d := xs[i].1) ?_ ?_ m hm
  · rw [List.getElem?_map, Array.getElem?_toList, hf]; rfl
  · rw [List.getElem?_map, List.getElem?_eq_getElem (by omega)]; rfl
theorem fldw {n : Nat} {fs : Array Field} (hf : ∀ (i : Nat) (f : Field), fs[i]? = some f → ∃ y, DataW.trod enc Try.prog w 0 spare held n f.type ((cs.drop f.offset).take (Try.prog.cellsOf f.type)) = some y ∧ InReach f.type y.1) (i : Nat) {f : Field} (h : fs[i]? = some f) {t off k : Nat} (ht : f.type = t) (ho : f.offset = off) (hk : Try.prog.cellsOf t = k) :
    ∃ y, DataW.trod enc Try.prog w 0 spare held n t ((cs.drop off).take k) = some y ∧ InReach t y.1 := by
  subst ht
  subst ho
  subst hk
  exact hf i f h
theorem bBool : Try.prog.bytesOf 4 = 1 := by kernel_rfl
theorem bStr : Try.prog.bytesOf 9 = 16 := by kernel_rfl
theorem bInts : Try.prog.bytesOf 42 = 24 := by kernel_rfl
theorem bStrs : Try.prog.bytesOf 48 = 24 := by kernel_rfl
set_option maxRecDepth 100000 in
theorem sq_sum_of_trod {F : Nat → Prop} {f a b c d : Value} {q : Sq} (h : DataW.trod enc Try.prog w 0 spare held fuel 50 [f, a, b, c, d] = some x) (hw : InReach 50 x.1) (hq : SqIn F w f a b c d q) : SqSum q := by
  obtain ⟨n, hf⟩ := fld_reach Try.underlying50 h hw
  obtain ⟨x1, p1, x2, p2, x3, p3, x4, p4, rfl, rfl, rfl, rfl, rfl⟩ := hq.shape
  obtain ⟨_, h1, w1⟩ := fldw hf 1 rfl rfl rfl cII
  obtain ⟨_, h2, w2⟩ := fldw hf 2 rfl rfl rfl cSSS
  obtain ⟨_, h3, w3⟩ := fldw hf 3 rfl rfl rfl cBB
  obtain ⟨_, h4, w4⟩ := fldw hf 4 rfl rfl rfl cSS
  have l1 := len_of_trod Try.underlying43 bInts (by decide) h1 w1 rfl
  have l2 := len_of_trod Try.underlying47 bStrs (by decide) h2 w2 rfl
  have l3 := len_of_trod Try.underlying44 bBool (by decide) h3 w3 rfl
  have l4 := len_of_trod Try.underlying48 bStr (by decide) h4 w4 rfl
  have hr := reachBytes_lt
  unfold SqSum
  omega
set_option maxRecDepth 100000 in
theorem rule_sum_of_trod {F : Nat → Prop} {r : Rule} (h : DataW.trod enc Try.prog w 0 spare held fuel 52 cs = some x) (hw : InReach 52 x.1) (hr : RuleIn F w cs r) : SqSum r.by_ := by
  obtain ⟨n, hf⟩ := fld_reach Try.underlying52 h hw
  obtain ⟨a1, b1, c1, a2, b2, c2, a3, b3, c3, f, na, ou, fi, ta, rfl, _, _, _, h4⟩ := hr.is
  obtain ⟨_, h5, w5⟩ := fldw hf 5 rfl rfl rfl cQ
  exact sq_sum_of_trod h5 w5 h4
set_option maxRecDepth 100000 in
theorem img_sum_of_trod {F : Nat → Prop} {a b : Value} {y : Img} (h : DataW.trod enc Try.prog w 0 spare held fuel 25 [a, b] = some x) (hw : InReach 25 x.1) (hy : ImgIn F w a b y) : ImgSum y := by
  obtain ⟨n, hf⟩ := fld_reach Try.underlying25 h hw
  obtain ⟨_, h0, w0⟩ := fldw hf 0 rfl rfl rfl cRR
  intro r hr
  obtain ⟨i, hi, rfl⟩ := List.getElem_of_mem hr
  obtain ⟨ad, cap, rfl, hm, hrow⟩ := hy.rules
  obtain ⟨g, off, rfl, _, hcells⟩ := hrow (by intro e; rw [e] at hi; simp at hi)
  obtain ⟨cs, hl, hc, hrule⟩ := hcells i hi
  have h0' : DataW.trod enc Try.prog w 0 spare held n 22 [.slice (some ⟨g, off, none⟩) y.rules.length cap] = some _ := h0
  rcases Go.Deep.open_slice Try.underlying22 h0' with ⟨e, _⟩ | ⟨a', len, cap', m, n', D, Pl, e, _, hl', _, hmm, hxx, hx⟩
  · cases e
  · cases e
    have hlm : y.rules.length ≤ m := by rw [hmm]; split <;> omega
    obtain ⟨cs', e1, e2⟩ := hx i (by omega)
    rw [cR] at e1
    obtain ⟨_, e3, e4⟩ := World.cells?_some e1
    have hcs : cs = cs' := by
      refine List.ext_getElem? fun j => ?_
      by_cases hj : j < 16
      · have hjc : j < cs.length := by omega
        have k1 := hc j cs[j] (List.getElem?_eq_getElem hjc)
        have k2 := e4 j hj
        rw [Addr.add_lit, Addr.add_lit, k1] at k2
        rw [List.getElem?_eq_getElem hjc, k2]
      · rw [List.getElem?_eq_none (by omega), List.getElem?_eq_none (by omega)]
    subst hcs
    refine rule_sum_of_trod e2 (fun k hk => w0 k ?_) hrule
    have e5 := congrArg Prod.fst hxx
    simp only at e5
    rw [e5]
    simp only [DataW.weights, Try.underlying22]
    exact List.mem_cons_of_mem _ (List.mem_append_left _ (mem_weightsAll (List.mem_map.2 ⟨i, List.mem_range.2 hi, rfl⟩) k hk))
theorem open_sum {F : Nat → Prop} {a b : Value} {d : DataW H} {ps : List MemPlace} {y : Img} (hd : DataW.Trod enc Try.prog w 0 spare held 25 (.agg #[a, b]) d ps) (hw : InReach 25 d) (hy : ImgIn F w a b y) : ImgSum y := by
  obtain ⟨fuel, hf⟩ := hd
  exact img_sum_of_trod (fuel := fuel) (x := (d, ps)) hf hw hy
end
end Go.Proofs.Ytdokeelodcckoaa.Im
