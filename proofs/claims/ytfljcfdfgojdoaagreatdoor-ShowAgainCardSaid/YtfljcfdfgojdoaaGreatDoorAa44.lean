/-
  Plain: what the parser tells of a map: how deep it is written, how many parts it has, that it may be.
  Plain: what a file's parser tells may be an item; what is written of such items is parsed as they were.
-/
import Derived.Test.YtfljcfdfgojdoaaGreatDoorAa43
namespace Go.Proofs.YtfljcfdfgojdoaaGreatDoor.Sh
open Go.RowKit Go.Lib Go.Proofs.YtfljcfdfgojdoaaGreatDoor

theorem OkMp.more : ∀ {n : Nat} {r : Mp} {k : Nat}, OkMp n r → n ≤ k → OkMp k r
  | 0, r, _, h, _ => by simp [OkMp] at h
  | n + 1, .mk _ _ _ _ _ _, 0, _, hk => by omega
  | n + 1, .mk k0 r o ps mn mx, k + 1, h, hk => by
    have h' : MNode k0 r o ps.length mn mx ∧ ∀ p ∈ ps, OkMp n p := by simpa [OkMp] using h
    unfold OkMp
    exact ⟨h'.1, fun p hp => (h'.2 p hp).more (by omega)⟩
theorem maskD_mono {r : Mp} {q q' : Nat} (h : q ≤ q') : maskD r q ≤ maskD r q' := by
  unfold maskD
  split
  · split <;> omega
  · omega
theorem maskD_le (r : Mp) (q : Nat) : maskD r q ≤ mpD r + 1 := by
  unfold maskD; split <;> omega
theorem maskD_zero (r : Mp) : maskD r 0 = mpD r := by
  unfold maskD; rw [if_neg (by omega)]; rfl
theorem mpartsD_le2 {n : Nat} {d : Nat} : ∀ {l : List Mp}, d ≤ 32 → (∀ p ∈ l, d + maskD p n ≤ 32) → d + mpartsD n l ≤ 32
  | [], hd, _ => by rw [mpartsD]; omega
  | p :: l, hd, h => by
    have h1 := h p List.mem_cons_self
    have h2 := mpartsD_le2 hd fun q hq => h q (List.mem_cons_of_mem _ hq)
    rw [mpartsD]
    unfold maskD at h1
    omega
/-- a function of the parser of maps at a level -/
def MB (T : List Tok) (q : Nat) (H : Nat → Nat) (part : Nat → Nat → RX Mp) : Prop :=
  ∀ a dep m a1, a ≤ T.length → dep ≤ 32 → part a dep = .ok (m, a1) → a1 ≤ T.length ∧ mnodes m + 1 + 2 * a ≤ 2 * a1 ∧ dep + maskD m q ≤ 32 ∧ SeMp m ∧ OkMp (H dep) m
theorem mnode_one (k : Int) (r : Re) (o : List B) : mnodes (.mk k r o [] 0 0) = 1 := by rw [mnodes, mnodesL]
theorem mleaf_askD {k : Int} (hk : k = 1 ∨ k = 2) (r : Re) (o : List B) {q : Nat} (hq : q ≤ 3) : maskD (.mk k r o [] 0 0) q = 0 := by
  have h1 : mlev (.mk k r o [] 0 0) = 3 := by rcases hk with rfl | rfl <;> rfl
  have h2 : mpD (.mk k r o [] 0 0) = 0 := by rcases hk with rfl | rfl <;> rfl
  unfold maskD
  rw [h1, h2, if_neg (by omega)]
theorem semp_leaf (k : Int) {r : Re} (o : List B) (hs : SeRe r) : SeMp (.mk k r o [] 0 0) := .mk _ _ _ _ _ _ hs fun p hp => by cases hp
theorem sere_zero : SeRe Re.zero := sere_leaf _ _ SeOk.none
section
variable {T : List Tok} (hT : ToksOk T)
include hT
theorem matom_pb {H : Nat → Nat} (hH : ∀ d, 1 ≤ H d) {alt : Nat → Nat → RX Mp} (ha : MB T 0 H alt) : MB T 3 (fun d => H (d + 1)) (mAtomM alt T) := by
  intro a dep r a1 hl hd h
  unfold mAtomM at h
  split at h
  · rename_i h0
    have := isB_lt h0
    split at h
    · cases h
    · rename_i h2
      rcases h3 : alt (a + 1) (dep + 1) with e | ⟨r', a'⟩
      · rw [h3] at h; cases h
      · rw [h3] at h
        simp only at h
        split at h
        · rename_i h4
          have := isB_lt h4
          simp only [Except.ok.injEq, Prod.mk.injEq] at h
          obtain ⟨rfl, rfl⟩ := h
          obtain ⟨b1, b2, b3, b4, b5⟩ := ha _ _ _ _ (by omega) (by omega) h3
          rw [maskD_zero] at b3
          have := maskD_le r' 3
          exact ⟨by omega, by omega, by omega, b4, b5⟩
        · cases h
  · rcases h3 : leafM notNone T a with e | ⟨r', a'⟩
    · rw [h3] at h; cases h
    · rw [h3] at h
      simp only at h
      obtain ⟨c1, rfl, c5, _, _, c4⟩ := leaf_pb hT h3
      split at h
      · rename_i h4
        have := isB_lt h4
        split at h
        · cases h
        · rename_i h5
          have hk : (tokAt T (a + 1 + 1)).kind = 2 := by simpa using h5
          have := kind_lt (T := T) (a := a + 1 + 1) (by rw [hk]; decide)
          simp only [Except.ok.injEq, Prod.mk.injEq] at h
          obtain ⟨rfl, rfl⟩ := h
          rw [mnode_one, mleaf_askD (.inr rfl) _ _ (by omega)]
          refine ⟨by omega, by omega, by omega, semp_leaf _ _ c4, OkMp.more (n := 1) ?_ (hH _)⟩
          unfold OkMp
          exact ⟨.out _ _ c5 ((hT.ok _).text hk), fun p hp => by cases hp⟩
      · simp only [Except.ok.injEq, Prod.mk.injEq] at h
        obtain ⟨rfl, rfl⟩ := h
        rw [mnode_one, mleaf_askD (.inl rfl) _ _ (by omega)]
        refine ⟨by omega, by omega, by omega, semp_leaf _ _ c4, OkMp.more (n := 1) ?_ (hH _)⟩
        unfold OkMp
        exact ⟨.same _ c5, fun p hp => by cases hp⟩
omit hT in
theorem mnode_two (k : Int) (r : Re) (o : List B) (p : Mp) (mn mx : Int) : mnodes (.mk k r o [p] mn mx) = 1 + mnodes p := by rw [mnodes, mnodesL, mnodesL]; omega
omit hT in
theorem mrep_ask (p : Mp) (mn mx : Int) : maskD (.mk 5 Re.zero [] [p] mn mx) 2 = maskD p 3 := by
  have h1 : mlev (.mk 5 Re.zero [] [p] mn mx) = 2 := rfl
  have h2 : mpD (.mk 5 Re.zero [] [p] mn mx) = maskD p 3 := by
    rw [mpD, mpartsD, mpartsD]
    simp [mneedK, maskD]
  unfold maskD at h2 ⊢
  rw [h1, h2, if_neg (Nat.lt_irrefl 2)]; rfl
omit hT in
theorem often_three {a : Nat} (h : (oftenM T a).ok = true) : ((oftenM T a).least = 0 ∧ (oftenM T a).most = -1) ∨ ((oftenM T a).least = 1 ∧ (oftenM T a).most = -1) ∨ ((oftenM T a).least = 0 ∧ (oftenM T a).most = 1) := by
  unfold oftenM at h ⊢
  simp only at h ⊢
  split
  · exact .inl ⟨rfl, rfl⟩
  · rename_i h1
    split
    · exact .inr (.inl ⟨rfl, rfl⟩)
    · rename_i h2
      split
      · exact .inr (.inr ⟨rfl, rfl⟩)
      · rename_i h3
        rw [if_neg h1, if_neg h2, if_neg h3] at h
        cases h
omit hT in
theorem mrep_pb {H : Nat → Nat} {atom : Nat → Nat → RX Mp} (ha : MB T 3 H atom) : MB T 2 (fun d => H d + 1) (mRepM atom T) := by
  intro a dep r a1 hl hd h
  unfold mRepM at h
  rcases h0 : atom a dep with e | ⟨part, a2⟩
  · rw [h0] at h; cases h
  · rw [h0] at h
    obtain ⟨b1, b2, b3, b4, b5⟩ := ha a dep _ _ hl hd h0
    simp only at h
    split at h
    · rename_i h1
      obtain ⟨c1, c2⟩ := often_pb h1
      simp only [Except.ok.injEq, Prod.mk.injEq] at h
      obtain ⟨rfl, rfl⟩ := h
      rw [c2, mnode_two, mrep_ask]
      refine ⟨by omega, by omega, b3, .mk _ _ _ _ _ _ sere_zero fun q hq => by simp at hq; subst hq; exact b4, ?_⟩
      unfold OkMp
      exact ⟨.rep _ _ (often_three h1), fun q hq => by simp at hq; subst hq; exact b5⟩
    · simp only [Except.ok.injEq, Prod.mk.injEq] at h
      obtain ⟨rfl, rfl⟩ := h
      have := maskD_mono (r := part) (show 2 ≤ 3 by omega)
      exact ⟨b1, b2, by omega, b4, b5.more (Nat.le_succ _)⟩
omit hT in
theorem mjoined_pb {k : Int} (hk : k = 3 ∨ k = 4) {dep a a1 n : Nat} {l : List Mp} (hd : dep ≤ 32) (hl : ∀ p ∈ l, dep + maskD p (mneedK k) ≤ 32 ∧ SeMp p ∧ OkMp n p) (h1 : 1 ≤ l.length) (hn : mnodesL l + l.length + 2 * a ≤ 2 * a1) :
    mnodes (mjoinM k l) + 1 + 2 * a ≤ 2 * a1 ∧ dep + maskD (mjoinM k l) (mlevK k) ≤ 32 ∧ SeMp (mjoinM k l) ∧ OkMp (n + 1) (mjoinM k l) := by
  rcases l with _ | ⟨p, _ | ⟨q, l⟩⟩
  · simp at h1
  · show mnodes p + 1 + 2 * a ≤ 2 * a1 ∧ dep + maskD p (mlevK k) ≤ 32 ∧ SeMp p ∧ OkMp (n + 1) p
    rw [mnodesL, mnodesL] at hn
    simp only [List.length_cons, List.length_nil] at hn
    obtain ⟨h2, h3, h5⟩ := hl p (by simp)
    have h4 : mlevK k ≤ mneedK k := by rcases hk with rfl | rfl <;> decide
    have := maskD_mono (r := p) h4
    exact ⟨by omega, by omega, h3, h5.more (by omega)⟩
  · show mnodes (.mk k Re.zero [] (p :: q :: l) 0 0) + 1 + 2 * a ≤ 2 * a1 ∧ dep + maskD (.mk k Re.zero [] (p :: q :: l) 0 0) (mlevK k) ≤ 32 ∧ SeMp (.mk k Re.zero [] (p :: q :: l) 0 0) ∧ OkMp (n + 1) (.mk k Re.zero [] (p :: q :: l) 0 0)
    generalize hm : p :: q :: l = m at *
    have hlen : 2 ≤ m.length := by rw [← hm]; simp
    refine ⟨?_, ?_, .mk _ _ _ _ _ _ sere_zero fun p hp => (hl p hp).2.1, ?_⟩
    · rw [mnodes]; omega
    · have h2 := mpartsD_le2 hd fun p hp => (hl p hp).1
      have h3 : mlev (.mk k Re.zero [] m 0 0) = mlevK k := rfl
      unfold maskD
      rw [h3, if_neg (by omega), mpD]
      exact h2
    · unfold OkMp
      refine ⟨?_, fun p hp => (hl p hp).2.2⟩
      rcases hk with rfl | rfl
      · exact .cat _ hlen
      · exact .alt _ hlen
omit hT in
theorem mnodesL_app (p : Mp) : ∀ l : List Mp, mnodesL (l ++ [p]) = mnodesL l + mnodes p
  | [] => by rw [List.nil_append, mnodesL, mnodesL, mnodesL]; omega
  | q :: l => by rw [List.cons_append, mnodesL, mnodesL, mnodesL_app p l]; omega
omit hT in
theorem mcatLoop_pb {H : Nat → Nat} {part : Nat → Nat → RX Mp} {dep a0 : Nat} (hd : dep ≤ 32) (hp : MB T 2 H part) : ∀ (f : Nat) (l : List Mp) (a : Nat) (r : Mp) (a1 : Nat), a ≤ T.length → (∀ p ∈ l, dep + maskD p 2 ≤ 32 ∧ SeMp p ∧ OkMp (H dep) p) → 1 ≤ l.length → mnodesL l + l.length + 2 * a0 ≤ 2 * a → mCatLoop part T dep f l a = .ok (r, a1) →
    a1 ≤ T.length ∧ mnodes r + 1 + 2 * a0 ≤ 2 * a1 ∧ dep + maskD r 1 ≤ 32 ∧ SeMp r ∧ OkMp (H dep + 1) r
  | 0, _, _, _, _, _, _, _, _, h => by rw [mCatLoop] at h; cases h
  | f + 1, l, a, r, a1, ha, hl, h1, hn, h => by
    rw [mCatLoop] at h
    split at h
    · rcases h2 : part a dep with e | ⟨r', a'⟩
      · rw [h2] at h; cases h
      · rw [h2] at h
        obtain ⟨b1, b2, b3, b4, b5⟩ := hp a dep _ _ ha hd h2
        refine mcatLoop_pb hd hp f (l ++ [r']) a' r a1 b1 (fun p hm => ?_) (by simp) (by rw [mnodesL_app]; simp only [List.length_append, List.length_cons, List.length_nil]; omega) h
        rcases List.mem_append.1 hm with hm | hm
        · exact hl p hm
        · simp at hm; subst hm; exact ⟨b3, b4, b5⟩
    · simp only [Except.ok.injEq, Prod.mk.injEq] at h
      obtain ⟨rfl, rfl⟩ := h
      exact ⟨ha, mjoined_pb (k := 3) (.inl rfl) hd hl h1 hn⟩
omit hT in
theorem mcat_pb {H : Nat → Nat} {part : Nat → Nat → RX Mp} (hp : MB T 2 H part) : MB T 1 (fun d => H d + 1) (mCatM part T) := by
  intro a dep r a1 hl hd h
  unfold mCatM at h
  rcases h2 : part a dep with e | ⟨r', a'⟩
  · rw [h2] at h; cases h
  · rw [h2] at h
    obtain ⟨b1, b2, b3, b4, b5⟩ := hp a dep _ _ hl hd h2
    exact mcatLoop_pb hd hp _ _ _ _ _ b1 (fun p hm => by simp at hm; subst hm; exact ⟨b3, b4, b5⟩) (by simp) (by rw [mnodesL, mnodesL]; simp only [List.length_cons, List.length_nil]; omega) h
omit hT in
theorem mrowLoop_pb {H : Nat → Nat} {part : Nat → Nat → RX Mp} {dep a0 : Nat} (hd : dep ≤ 32) (hp : MB T 1 H part) : ∀ (f : Nat) (l : List Mp) (a : Nat) (r : Mp) (a1 : Nat), a ≤ T.length → (∀ p ∈ l, dep + maskD p 1 ≤ 32 ∧ SeMp p ∧ OkMp (H dep) p) → 1 ≤ l.length → mnodesL l + l.length + 2 * a0 ≤ 2 * a → mRowLoop part T dep f l a = .ok (r, a1) →
    a1 ≤ T.length ∧ mnodes r + 1 + 2 * a0 ≤ 2 * a1 ∧ dep + maskD r 0 ≤ 32 ∧ SeMp r ∧ OkMp (H dep + 1) r
  | 0, _, _, _, _, _, _, _, _, h => by rw [mRowLoop] at h; cases h
  | f + 1, l, a, r, a1, ha, hl, h1, hn, h => by
    rw [mRowLoop] at h
    split at h
    · rename_i h0
      have := isB_lt h0
      rcases h2 : part (a + 1) dep with e | ⟨r', a'⟩
      · rw [h2] at h; cases h
      · rw [h2] at h
        obtain ⟨b1, b2, b3, b4, b5⟩ := hp (a + 1) dep _ _ (by omega) hd h2
        refine mrowLoop_pb hd hp f (l ++ [r']) a' r a1 b1 (fun p hm => ?_) (by simp) (by rw [mnodesL_app]; simp only [List.length_append, List.length_cons, List.length_nil]; omega) h
        rcases List.mem_append.1 hm with hm | hm
        · exact hl p hm
        · simp at hm; subst hm; exact ⟨b3, b4, b5⟩
    · simp only [Except.ok.injEq, Prod.mk.injEq] at h
      obtain ⟨rfl, rfl⟩ := h
      exact ⟨ha, mjoined_pb (k := 4) (.inr rfl) hd hl h1 hn⟩
omit hT in
theorem mrow_pb {H : Nat → Nat} {part : Nat → Nat → RX Mp} (hp : MB T 1 H part) : MB T 0 (fun d => H d + 1) (mRowM part T) := by
  intro a dep r a1 hl hd h
  unfold mRowM at h
  rcases h2 : part a dep with e | ⟨r', a'⟩
  · rw [h2] at h; cases h
  · rw [h2] at h
    obtain ⟨b1, b2, b3, b4, b5⟩ := hp a dep _ _ hl hd h2
    exact mrowLoop_pb hd hp _ _ _ _ _ b1 (fun p hm => by simp at hm; subst hm; exact ⟨b3, b4, b5⟩) (by simp) (by rw [mnodesL, mnodesL]; simp only [List.length_cons, List.length_nil]; omega) h
theorem malt_pb : ∀ n, MB T 0 (fun d => 3 * (33 - d) + 1) (mAltM T n)
  | 0 => by
    intro a dep r a1 hl hd h
    rw [mAltM] at h; cases h
  | n + 1 => by
    have h1 := matom_pb hT (H := fun d => 3 * (33 - d) + 1) (fun d => by omega) (malt_pb n)
    have h2 := mrow_pb (mcat_pb (mrep_pb h1))
    intro a dep r a1 hl hd h
    rw [mAltM] at h
    obtain ⟨b1, b2, b3, b4, b5⟩ := h2 a dep r a1 hl hd h
    exact ⟨b1, b2, b3, b4, b5.more (by show _ ≤ _; simp only; omega)⟩
end
end Go.Proofs.YtfljcfdfgojdoaaGreatDoor.Sh

namespace Go.Proofs.YtfljcfdfgojdoaaGreatDoor.Sh
open Go.RowKit Go.Lib Go.Proofs.YtfljcfdfgojdoaaGreatDoor

/-- an expression that the parser tells, of no more than n parts -/
structure GoodR (n : Nat) (r : Re) : Prop where
  ok : OkRe 133 r
  se : SeRe r
  d : reD r ≤ 32
  n : nodes r ≤ n
structure GoodM (n : Nat) (m : Mp) : Prop where
  ok : OkMp 100 m
  se : SeMp m
  d : mpD m ≤ 32
  n : mnodes m ≤ n
structure GoodN (s : List B) : Prop where
  ok : NameOk ⟨s.toArray⟩
  len : s.length ≤ 31
/-- an item that the parser tells -/
inductive OkIt (n : Nat) : It → Prop where
  | named (k : Int) (s : List B) (r : Re) (hk : k = 1 ∨ k = 4) (hs : GoodN s) (hr : GoodR n r) : OkIt n ⟨k, s, r, Mp.zero, [], [], false, Re.zero, Re.zero⟩
  | map (s : List B) (m : Mp) (hs : GoodN s) (hm : GoodM n m) : OkIt n ⟨2, s, Re.zero, m, [], [], false, Re.zero, Re.zero⟩
  | rule (r : Re) (o b : List B) (hr : GoodR n r) (ho : o.length ≤ 256) (hb : b = [] ∨ (o = [] ∧ GoodN b)) : OkIt n ⟨3, [], r, Mp.zero, o, b, false, Re.zero, Re.zero⟩
  | around (r : Re) (o b : List B) (l q : Re) (hr : GoodR n r) (ho : o.length ≤ 256) (hb : b = [] ∨ (o = [] ∧ GoodN b)) (hl : GoodR n l) (hq : GoodR n q) : OkIt n ⟨3, [], r, Mp.zero, o, b, true, l, q⟩
theorem GoodN.ne {s : List B} (h : GoodN s) : s ≠ [] := by
  obtain ⟨c, r, rfl, _⟩ := name_of h.ok
  simp
section
variable {T : List Tok} (hT : ToksOk T)
include hT
theorem name_pb {a a1 : Nat} {s : List B} (h : nameM T a = .ok (s, a1)) : a < T.length ∧ a1 = a + 1 ∧ GoodN s := by
  unfold nameM at h
  simp only at h
  split at h
  · cases h
  · rename_i hr
    split at h
    · cases h
    · rename_i h1
      have hk : (tokAt T a).kind = 1 := by simpa using h1
      simp only [Except.ok.injEq, Prod.mk.injEq] at h
      obtain ⟨rfl, rfl⟩ := h
      obtain ⟨n1, n2, n3, n4⟩ := (hT.ok a).name hk
      refine ⟨kind_lt (by rw [hk]; decide), rfl, ?_, n1⟩
      have hs : sfx ⟨(tokAt T a).text.toArray⟩ 0 = (tokAt T a).text := by simp [sfx]
      have hl : (⟨(tokAt T a).text.toArray⟩ : ByteArray).toList = (tokAt T a).text := by rw [ByteArray.toList_eq]
      unfold NameOk
      rw [hs, hl]
      exact ⟨n2, n3, n4, by simpa using hr⟩
theorem re_good {a a1 : Nat} {r : Re} (ha : a ≤ T.length) (h : altM notNone T 33 a 0 = .ok (r, a1)) : a1 ≤ T.length ∧ GoodR (2 * T.length) r := by
  have h1 := alt_okr hT.ok notNone 33 a 0 _ _ (by omega) h
  obtain ⟨b1, b2, b3, b4⟩ := alt_pb hT 33 a 0 _ _ ha (by omega) h
  rw [askD_zero] at b3
  exact ⟨b1, h1, b4, by omega, by omega⟩
theorem mp_good {a a1 : Nat} {r : Mp} (ha : a ≤ T.length) (h : mAltM T 33 a 0 = .ok (r, a1)) : a1 ≤ T.length ∧ GoodM (2 * T.length) r := by
  obtain ⟨b1, b2, b3, b4, b5⟩ := malt_pb hT 33 a 0 _ _ ha (by omega) h
  rw [maskD_zero] at b3
  exact ⟨b1, b5.more (show 3 * (33 - 0) + 1 ≤ 100 by decide), b4, by omega, by omega⟩
theorem named_good {k : Int} (hk : k = 1 ∨ k = 4) {a a1 : Nat} {x : It} (h : namedM k T a 0 = .ok (x, a1)) : a1 ≤ T.length ∧ OkIt (2 * T.length) x := by
  unfold namedM at h
  rcases h1 : nameM T a with e | ⟨s, a2⟩
  · rw [h1] at h; cases h
  · rw [h1] at h
    obtain ⟨c1, rfl, c2⟩ := name_pb hT h1
    simp only at h
    split at h
    · rename_i h2
      have := isB_lt h2
      rcases h3 : altM notNone T 33 (a + 1 + 1) 0 with e | ⟨r, a3⟩
      · rw [h3] at h; cases h
      · rw [h3] at h
        simp only [Except.ok.injEq, Prod.mk.injEq] at h
        obtain ⟨rfl, rfl⟩ := h
        obtain ⟨d1, d2⟩ := re_good hT (by omega) h3
        exact ⟨d1, .named _ _ _ hk c2 d2⟩
    · cases h
theorem map_good {a a1 : Nat} {x : It} (h : mapItemM T a 0 = .ok (x, a1)) : a1 ≤ T.length ∧ OkIt (2 * T.length) x := by
  unfold mapItemM at h
  rcases h1 : nameM T a with e | ⟨s, a2⟩
  · rw [h1] at h; cases h
  · rw [h1] at h
    obtain ⟨c1, rfl, c2⟩ := name_pb hT h1
    simp only at h
    split at h
    · rename_i h2
      have := isB_lt h2
      rcases h3 : mAltM T 33 (a + 1 + 1) 0 with e | ⟨r, a3⟩
      · rw [h3] at h; cases h
      · rw [h3] at h
        simp only [Except.ok.injEq, Prod.mk.injEq] at h
        obtain ⟨rfl, rfl⟩ := h
        obtain ⟨d1, d2⟩ := mp_good hT (by omega) h3
        exact ⟨d1, .map _ _ c2 d2⟩
    · cases h
theorem out_good {a a1 : Nat} {o : List B × List B} (h : ruleOut T a = .ok (o, a1)) : a1 ≤ T.length ∧ o.1.length ≤ 256 ∧ (o.2 = [] ∨ (o.1 = [] ∧ GoodN o.2)) := by
  unfold ruleOut at h
  split at h
  · rename_i h1
    have hk : (tokAt T a).kind = 2 := by simpa using h1
    have := kind_lt (T := T) (a := a) (by rw [hk]; decide)
    simp only [Except.ok.injEq, Prod.mk.injEq] at h
    obtain ⟨rfl, rfl⟩ := h
    exact ⟨this, (hT.ok a).text hk, .inl rfl⟩
  · rcases h1 : nameM T a with e | ⟨s, a2⟩
    · rw [h1] at h; cases h
    · rw [h1] at h
      obtain ⟨c1, rfl, c2⟩ := name_pb hT h1
      simp only [Except.ok.injEq, Prod.mk.injEq] at h
      obtain ⟨rfl, rfl⟩ := h
      exact ⟨c1, by simp, .inr ⟨rfl, c2⟩⟩
theorem tail_good {r : Re} (hr : GoodR (2 * T.length) r) {o : List B × List B} (ho : o.1.length ≤ 256) (hb : o.2 = [] ∨ (o.1 = [] ∧ GoodN o.2)) {a a1 : Nat} {x : It} (ha : a ≤ T.length) (h : ruleTail r o T a 0 = .ok (x, a1)) : a1 ≤ T.length ∧ OkIt (2 * T.length) x := by
  unfold ruleTail at h
  split at h
  · rename_i h0
    have := isB_lt h0
    rcases h1 : altM notNone T 33 (a + 1) 0 with e | ⟨l, a2⟩
    · rw [h1] at h; cases h
    · rw [h1] at h
      obtain ⟨d1, d2⟩ := re_good hT (by omega) h1
      simp only at h
      split at h
      · cases h
      · split at h
        · cases h
        · rename_i h2
          have hk : (tokAt T a2).kind = 1 := by simpa using h2
          have := kind_lt (T := T) (a := a2) (by rw [hk]; decide)
          rcases h3 : altM notNone T 33 (a2 + 1) 0 with e | ⟨q, a3⟩
          · rw [h3] at h; cases h
          · rw [h3] at h
            obtain ⟨e1, e2⟩ := re_good hT (by omega) h3
            simp only [Except.ok.injEq, Prod.mk.injEq] at h
            obtain ⟨rfl, rfl⟩ := h
            exact ⟨e1, .around _ _ _ _ _ hr ho hb d2 e2⟩
  · simp only [Except.ok.injEq, Prod.mk.injEq] at h
    obtain ⟨rfl, rfl⟩ := h
    exact ⟨ha, .rule _ _ _ hr ho hb⟩
theorem rule_good {a a1 : Nat} {x : It} (ha : a ≤ T.length) (h : ruleM T a 0 = .ok (x, a1)) : a1 ≤ T.length ∧ OkIt (2 * T.length) x := by
  unfold ruleM at h
  rcases h1 : altM notNone T 33 a 0 with e | ⟨r, a2⟩
  · rw [h1] at h; cases h
  · rw [h1] at h
    obtain ⟨d1, d2⟩ := re_good hT ha h1
    simp only at h
    split at h
    · rename_i h2
      have := isB_lt h2
      rcases h3 : ruleOut T (a2 + 1) with e | ⟨o, a3⟩
      · rw [h3] at h; cases h
      · rw [h3] at h
        obtain ⟨e1, e2, e3⟩ := out_good hT h3
        exact tail_good hT d2 e2 e3 e1 h
    · cases h
theorem item_good {k a a1 : Nat} {x : It} (ha : a ≤ T.length) (h : itemM k T a 0 = .ok (x, a1)) : a1 ≤ T.length ∧ OkIt (2 * T.length) x := by
  unfold itemM at h
  split at h
  · exact named_good hT (.inl rfl) h
  · split at h
    · exact map_good hT h
    · split at h
      · exact rule_good hT ha h
      · exact named_good hT (.inr rfl) h
theorem loop_good : ∀ (f : Nat) (l : List It) (a : Nat) (r : List It) (a1 : Nat), a ≤ T.length → l.length ≤ 256 → (∀ x ∈ l, OkIt (2 * T.length) x) → fileLoop T 0 f l a = .ok (r, a1) → r.length ≤ 256 ∧ ∀ x ∈ r, OkIt (2 * T.length) x
  | 0, _, _, _, _, _, _, _, h => by rw [fileLoop] at h; cases h
  | f + 1, l, a, r, a1, ha, hl, hx, h => by
    rw [fileLoop] at h
    split at h
    · split at h
      · cases h
      · rename_i h1
        split at h
        · cases h
        · split at h
          · cases h
          · rename_i h2
            have hk : (tokAt T a).kind = 1 := by simpa using h2
            have := kind_lt (T := T) (a := a) (by rw [hk]; decide)
            rcases h3 : itemM (kindOf (tokAt T a).text) T (a + 1) 0 with e | ⟨x, a2⟩
            · rw [h3] at h; cases h
            · rw [h3] at h
              obtain ⟨d1, d2⟩ := item_good hT (by omega) h3
              simp only at h
              split at h
              · rename_i h4
                have := isB_lt h4
                refine loop_good f (l ++ [x]) (a2 + 1) r a1 (by omega) (by simp; omega) (fun y hy => ?_) h
                rcases List.mem_append.1 hy with hy | hy
                · exact hx y hy
                · simp at hy; subst hy; exact d2
              · cases h
    · simp only [Except.ok.injEq, Prod.mk.injEq] at h
      obtain ⟨rfl, rfl⟩ := h
      exact ⟨hl, hx⟩
end
theorem lexes_len {r : List B} {l : List Tok} (h : Lexes r l) : l.length ≤ r.length := by
  induction h with
  | stop _ => simp
  | @step r r1 c t n l h ht hl ih =>
    have h1 := tokenL_ok ht
    have h2 := white_len false r
    rw [h] at h2
    rw [List.length_drop] at ih
    simp only [List.length_cons] at *
    omega
/-- what parse.File tells may be items, of no more parts than the text has bytes, about -/
theorem file_good {s : ByteArray} {l : List It} (h : parseFile s = .ok l) : l.length ≤ 256 ∧ ∀ x ∈ l, OkIt (2 * (s.size + 1)) x := by
  unfold parseFile at h
  rcases h1 : allT s with ⟨p, x⟩ | ts
  · rw [h1] at h; cases h
  · rw [h1] at h
    have hT := toks_ok h1
    have hlen := lexes_len (allT_lexes h1)
    rw [List.length_map] at hlen
    have hs : s.data.toList.length = s.size := rfl
    have hTl : (toksOf s ts).length = ts.length + 1 := by unfold toksOf; simp
    simp only at h
    rcases h2 : fileM (toksOf s ts) 0 0 with ⟨p, x⟩ | ⟨r, a⟩
    · rw [h2] at h; cases h
    · rw [h2] at h
      unfold closeF at h
      simp only at h
      split at h
      · cases h
      · cases h
        unfold fileM at h2
        obtain ⟨g1, g2⟩ := loop_good hT _ [] 0 _ _ (Nat.zero_le _) (Nat.zero_le _) (fun x hx => by cases hx) h2
        refine ⟨g1, fun x hx => ?_⟩
        have up : ∀ {r : Re}, GoodR (2 * (toksOf s ts).length) r → GoodR (2 * (s.size + 1)) r := fun h => ⟨h.ok, h.se, h.d, by have := h.n; omega⟩
        have upm : ∀ {r : Mp}, GoodM (2 * (toksOf s ts).length) r → GoodM (2 * (s.size + 1)) r := fun h => ⟨h.ok, h.se, h.d, by have := h.n; omega⟩
        cases g2 x hx with
        | named k s r hk hs hr => exact .named k s r hk hs (up hr)
        | map s m hs hm => exact .map s m hs (upm hm)
        | rule r o b hr ho hb => exact .rule r o b (up hr) ho hb
        | around r o b l q hr ho hb hl hq => exact .around r o b l q (up hr) ho hb (up hl) (up hq)
end Go.Proofs.YtfljcfdfgojdoaaGreatDoor.Sh
