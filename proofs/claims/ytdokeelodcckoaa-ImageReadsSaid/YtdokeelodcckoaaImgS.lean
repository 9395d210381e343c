/-
  Encoded images: sums, beginnings, one byte more, sameness: the plain laws.
-/
import Derived.Test.YtdokeelodcckoaaImgL
namespace Go.Proofs.Ytdokeelodcckoaa.Im

def sumFrom (n : Nat) (l : List B) : Nat := l.foldl (fun n x => (31 * n + x.toNat + 1) % 65521) n
theorem sumFrom_app (n : Nat) (l m : List B) : sumFrom n (l ++ m) = sumFrom (sumFrom n l) m := List.foldl_append ..
theorem sumFrom_lt (l : List B) {n : Nat} (h : n < 65521) : sumFrom n l < 65521 := sumL_lt' l n h
theorem sumFrom_ne : ∀ (l : List B) {n m : Nat}, n < 65521 → m < 65521 → n ≠ m → sumFrom n l ≠ sumFrom m l
  | [], _, _, _, _, h => h
  | x :: l, n, m, hn, hm, h => by
    have := sumFrom_ne l (n := (31 * n + x.toNat + 1) % 65521) (m := (31 * m + x.toNat + 1) % 65521) (sum_step n x) (sum_step m x) (by omega)
    exact this
theorem toNat_ne {c d : B} (h : c ≠ d) : c.toNat ≠ d.toNat := fun e => h (UInt8.toNat_inj.1 e)
theorem sum_other (p q : List B) {c d : B} (h : c ≠ d) : sumL (p ++ c :: q) ≠ sumL (p ++ d :: q) := by
  show sumFrom 1 _ ≠ sumFrom 1 _
  rw [sumFrom_app, sumFrom_app]
  have hp := sumFrom_lt p (n := 1) (by omega)
  generalize sumFrom 1 p = n at hp
  have h1 := toNat_ne h
  have h2 := c.toNat_lt
  have h3 := d.toNat_lt
  exact sumFrom_ne q (n := (31 * n + c.toNat + 1) % 65521) (m := (31 * n + d.toNat + 1) % 65521) (sum_step _ _) (sum_step _ _) (by omega)
theorem sum_swap (p q : List B) {c d : B} (h : c ≠ d) : sumL (p ++ c :: d :: q) ≠ sumL (p ++ d :: c :: q) := by
  show sumFrom 1 _ ≠ sumFrom 1 _
  rw [sumFrom_app, sumFrom_app]
  have hp := sumFrom_lt p (n := 1) (by omega)
  generalize sumFrom 1 p = n at hp
  have h1 := toNat_ne h
  have h2 := c.toNat_lt
  have h3 := d.toNat_lt
  refine sumFrom_ne q (n := (31 * ((31 * n + c.toNat + 1) % 65521) + d.toNat + 1) % 65521) (m := (31 * ((31 * n + d.toNat + 1) % 65521) + c.toNat + 1) % 65521) (sum_step _ _) (sum_step _ _) ?_
  generalize c.toNat = x at *
  generalize d.toNat = y at *
  omega
/-- the first nine bytes are the same -/
structure Head (a b : List B) : Prop where
  at_ : ∀ i, i < 9 → byteAt a i = byteAt b i
theorem Head.tells {a b : List B} (h : Head a b) : tells a = tells b := by
  unfold Im.tells
  rw [h.at_ 3 (by omega), h.at_ 4 (by omega), h.at_ 5 (by omega), h.at_ 6 (by omega)]
theorem Head.ok {a b : List B} (h : Head a b) : headOk a = headOk b := by
  unfold headOk
  rw [h.tells, h.at_ 0 (by omega), h.at_ 1 (by omega), h.at_ 2 (by omega)]
section
variable {ok : List B → Bool} {x y : Img} {a b : List B}
structure Enc (ok : List B → Bool) (x : Img) (a : List B) : Prop where
  okI : imgOk ok x = true
  few : (eImg x).length ≤ most
  is : a = headL (eImg x) ++ eImg x
  drop : a.drop 9 = eImg x
  len : a.length = 9 + (eImg x).length
  tells : Im.tells a = (eImg x).length
  head : headOk a = true
  sum : 256 * byteAt a 7 + byteAt a 8 = sumL (eImg x)
  some : 4 ≤ (eImg x).length
theorem enc_is (h : encode ok x = (a, 0)) : Enc ok x a := by
  obtain ⟨h1, h2, h3⟩ := encode_ok h
  refine ⟨h1, h2, h3, ?_, ?_, ?_, ?_, ?_, ?_⟩
  · rw [h3, List.drop_append_of_le_length (by rw [headL_len]; omega)]; rfl
  · rw [h3, List.length_append, headL_len]
  · rw [h3]; exact tells_head _ _ h2
  · rw [h3]; exact headOk_head _ _ h2
  · rw [h3]; exact sum_head _ _
  · simp [eImg, eNum]; omega
theorem decode_more (h : Enc ok x a) (hb : Head b a) (hl : 9 ≤ b.length) (hs : b.length < a.length) : decode ok b = .error 6 := by
  unfold decode
  have := h.len
  rw [if_neg (by omega), if_neg (by rw [hb.ok, h.head]; simp), if_pos (by rw [hb.tells, h.tells, List.length_drop]; omega)]
theorem decode_form (h : Enc ok x a) (hb : Head b a) (hs : a.length < b.length) : decode ok b = .error 4 := by
  unfold decode
  have := h.len
  rw [if_neg (by omega), if_neg (by rw [hb.ok, h.head]; simp), if_neg (by rw [hb.tells, h.tells, List.length_drop]; omega), if_pos (by rw [hb.tells, h.tells, List.length_drop]; omega)]
theorem decode_sum (h : Enc ok x a) (hb : Head b a) (hs : b.length = a.length) (hq : sumL (b.drop 9) ≠ sumL (eImg x)) : decode ok b = .error 5 := by
  unfold decode
  have := h.len
  rw [if_neg (by omega), if_neg (by rw [hb.ok, h.head]; simp), if_neg (by rw [hb.tells, h.tells, List.length_drop]; omega), if_neg (by rw [hb.tells, h.tells, List.length_drop]; omega), if_pos (by rw [hb.at_ 7 (by omega), hb.at_ 8 (by omega), h.sum]; exact hq)]
theorem byteAt_take {n i : Nat} (h : i < n) : byteAt (a.take n) i = byteAt a i := by
  unfold byteAt
  rw [List.getD_eq_getElem?_getD, List.getD_eq_getElem?_getD, List.getElem?_take, if_pos h]
theorem byteAt_set {c : B} {n i : Nat} (h : i < n) : byteAt (a.set n c) i = byteAt a i := by
  unfold byteAt
  rw [List.getD_eq_getElem?_getD, List.getD_eq_getElem?_getD, List.getElem?_set, if_neg (by omega)]
/-- a beginning asks for more -/
theorem begins_more (h : encode ok x = (a, 0)) {n : Nat} (h1 : 9 ≤ n) (h2 : n < a.length) : decode ok (a.take n) = .error 6 :=
  decode_more (enc_is h) ⟨fun i hi => byteAt_take (by omega)⟩ (by rw [List.length_take]; omega) (by rw [List.length_take]; omega)
theorem longer_form (h : encode ok x = (a, 0)) (c : B) : decode ok (a ++ [c]) = .error 4 :=
  decode_form (enc_is h) ⟨fun i hi => byteAt_app (by have := (enc_is h).len; omega)⟩ (by simp)
theorem set_split {l : List B} {i : Nat} (h : i < l.length) (c : B) : l.set i c = l.take i ++ c :: l.drop (i + 1) := List.set_eq_take_append_cons_drop ▸ (by rw [if_pos h])
theorem self_split {l : List B} {i : Nat} (h : i < l.length) : l = l.take i ++ l[i] :: l.drop (i + 1) := by
  rw [← List.drop_eq_getElem_cons h, List.take_append_drop]
theorem set_sum (h : encode ok x = (a, 0)) {n : Nat} (h1 : 9 ≤ n) (h2 : n < a.length) {c : B} (hc : c ≠ a[n]) : decode ok (a.set n c) = .error 5 := by
  have he := enc_is h
  refine decode_sum he ⟨fun i hi => byteAt_set (by omega)⟩ (by simp) ?_
  have e : a.drop 9 = eImg x := he.drop
  have hn : n - 9 < (a.drop 9).length := by rw [List.length_drop]; omega
  have e1 : (a.set n c).drop 9 = (a.drop 9).set (n - 9) c := by
    rw [List.drop_set]
    rw [if_neg (by omega)]
  rw [← e, e1, set_split hn]
  conv => rhs; rw [self_split hn]
  refine sum_other _ _ ?_
  rw [List.getElem_drop]
  simpa [show 9 + (n - 9) = n by omega] using hc
theorem swap_list (l : List B) (k : Nat) (hn : k + 1 < l.length) (hc : l[k] ≠ l[k + 1]) : sumL ((l.set k l[k + 1]).set (k + 1) l[k]) ≠ sumL l := by
  have s1 : l = l.take k ++ l[k] :: l[k + 1] :: l.drop (k + 2) := by
    rw [← List.drop_eq_getElem_cons (by omega), ← List.drop_eq_getElem_cons (by omega), List.take_append_drop]
  have s2 : (l.set k l[k + 1]).set (k + 1) l[k] = l.take k ++ l[k + 1] :: l[k] :: l.drop (k + 2) := by
    generalize hx : l[k] = x at *
    generalize hy : l[k + 1] = y at *
    generalize ht : l.drop (k + 2) = t at *
    have hk : (l.take k).length = k := by rw [List.length_take]; omega
    generalize l.take k = p at *
    rw [s1, List.set_append_right _ _ (by omega), List.set_append_right _ _ (by omega), hk]
    simp [show k + 1 - k = 1 by omega]
  rw [s2]
  conv => rhs; rw [s1]
  exact sum_swap _ _ (fun e => hc e.symm)
theorem swap_sum (h : encode ok x = (a, 0)) {n : Nat} (h1 : 9 ≤ n) (h2 : n + 1 < a.length) (hc : a[n] ≠ a[n + 1]) : decode ok ((a.set n a[n + 1]).set (n + 1) a[n]) = .error 5 := by
  have he := enc_is h
  refine decode_sum he ⟨fun i hi => (byteAt_set (by omega)).trans (byteAt_set (by omega))⟩ (by simp) ?_
  have e : a.drop 9 = eImg x := he.drop
  obtain ⟨k, rfl⟩ : ∃ k, n = 9 + k := ⟨n - 9, by omega⟩
  have hn : k + 1 < (a.drop 9).length := by rw [List.length_drop]; omega
  have e1 : ((a.set (9 + k) a[9 + k + 1]).set (9 + k + 1) a[9 + k]).drop 9 = ((a.drop 9).set k a[9 + k + 1]).set (k + 1) a[9 + k] := by
    rw [List.drop_set, if_neg (by omega), List.drop_set, if_neg (by omega)]
    congr 2 <;> omega
  have g1 : a[9 + k] = (a.drop 9)[k] := by rw [List.getElem_drop]
  have g2 : a[9 + k + 1] = (a.drop 9)[k + 1] := by rw [List.getElem_drop]; congr 1
  rw [g1, g2] at hc
  rw [← e, e1, g1, g2]
  exact swap_list _ _ hn hc
/-- two images have the same bytes just if they are the same -/
theorem same_bytes (hok : ∀ s, ok s = true → s.length ≤ 256) (hx : encode ok x = (a, 0)) (hy : encode ok y = (b, 0)) : a = b ↔ x = y := by
  constructor
  · intro e
    have h1 := decode_enc hok hx
    have h2 := decode_enc hok hy
    rw [e, h2] at h1
    exact (Except.ok.inj h1).symm
  · intro e
    subst e
    rw [hx] at hy
    exact (Prod.mk.inj hy).1
theorem decode_back (h : decode ok b = .ok y) : encode ok y = (b, 0) := by
  unfold decode at h
  repeat (first | (split at h; cases h) | fail)
  rename_i h1 h2
  simp only at h
  split at h
  · cases h
  · split at h
    · cases h
    · rename_i h4 h5
      cases h
      exact Prod.ext (Decidable.not_not.1 (fun e => h5 (.inr e))) (Decidable.not_not.1 (fun e => h5 (.inl e)))
end
end Go.Proofs.Ytdokeelodcckoaa.Im
