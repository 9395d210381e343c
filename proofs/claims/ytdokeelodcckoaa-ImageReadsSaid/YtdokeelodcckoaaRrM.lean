/-
  The reference's reader, as plain functions, and that it answers as the model's Decode: the plain law.
-/
import Derived.Test.YtdokeelodcckoaaImgS
namespace Go.Proofs.Ytdokeelodcckoaa.Im

def one1 (r : Rd) : Nat × Rd :=
  match r.b with
  | [] => (0, ⟨[], true⟩)
  | c :: t => (c.toNat, ⟨t, r.bad⟩)
def numR (r : Rd) : Nat × Rd := (256 * (one1 r).1 + (one1 (one1 r).2).1, (one1 (one1 r).2).2)
def txtR (r : Rd) : List B × Rd :=
  if (numR r).2.b.length < (numR r).1 then ([], ⟨(numR r).2.b, true⟩) else ((numR r).2.b.take (numR r).1, ⟨(numR r).2.b.drop (numR r).1, (numR r).2.bad⟩)
def bitR (r : Rd) : Bool × Rd := (decide ((one1 r).1 = 1), ⟨(one1 r).2.b, (one1 r).2.bad || decide (1 < (one1 r).1)⟩)
def onesR : Nat → Rd → List Int × Rd
  | 0, r => ([], r)
  | k + 1, r => (((one1 r).1 : Int) :: (onesR k (one1 r).2).1, (onesR k (one1 r).2).2)
def numsR : Nat → Rd → List Int × Rd
  | 0, r => ([], r)
  | k + 1, r => if r.bad then ([], r) else (((numR r).1 : Int) :: (numsR k (numR r).2).1, (numsR k (numR r).2).2)
def statesR (k : Nat) : Nat → Rd → (List Bool × List (List Int)) × Rd
  | 0, r => (([], []), r)
  | n + 1, r =>
    if r.bad then (([], []), r) else
    let e := bitR r
    let x := numsR k e.2
    let y := statesR k n x.2
    ((e.1 :: y.1.1, x.1 :: y.1.2), y.2)
def autoHead (r : Rd) : Nat × Nat × List Int × Rd :=
  let n := numR r
  let k := numR n.2
  let c := onesR 256 k.2
  (n.1, k.1, c.1, ⟨c.2.b, c.2.bad || (decide (1024 < n.1) || decide (256 < k.1))⟩)
def autoR (r : Rd) : Dfa × Rd :=
  let h := autoHead r
  let y := statesR h.2.1 h.1 h.2.2.2
  (⟨h.2.2.1, y.1.2, y.1.1⟩, ⟨y.2.b, y.2.bad || !dfaOk ⟨h.2.2.1, y.1.2, y.1.1⟩⟩)
def arcsR : Nat → Int → (List Int × List (List B)) → Rd → (List Int × List (List B)) × Rd
  | 0, _, x, r => (x, r)
  | m + 1, last, x, r =>
    if r.bad then (x, r) else
    let c := one1 r
    let z := numR ⟨c.2.b, c.2.bad || decide ((c.1 : Int) ≤ last)⟩
    let o := txtR z.2
    arcsR m c.1 (x.1.set c.1 z.1, x.2.set c.1 o.1) o.2
def rowR (r : Rd) : (List Int × List (List B)) × Rd := arcsR (numR r).1 (-1) blank (numR r).2
def tailR (e : Bool) (r : Rd) : List B × Rd := if e then txtR r else ([], r)
def sstateR (r : Rd) : SRow × Rd :=
  let e := bitR r
  let t := tailR e.1 e.2
  let y := rowR t.2
  (⟨y.1.1, y.1.2, e.1, t.1⟩, y.2)
def sstatesR : Nat → Rd → List SRow × Rd
  | 0, r => ([], r)
  | k + 1, r => if r.bad then ([], r) else ((sstateR r).1 :: (sstatesR k (sstateR r).2).1, (sstatesR k (sstateR r).2).2)
def sqR (r : Rd) : Sq × Rd :=
  let f := txtR r
  let n := numR f.2
  let y := sstatesR n.1 ⟨n.2.b, n.2.bad || decide (1024 < n.1)⟩
  (⟨f.1, y.1.map (·.next), y.1.map (·.outs), y.1.map (·.fin), y.1.map (·.tail)⟩, y.2)
def ruleR (r : Rd) : Rule × Rd :=
  let m := bitR r
  let a := autoR m.2
  let b := autoR a.2
  let c := autoR b.2
  if m.1 then (⟨a.1, b.1, c.1, [], true, (sqR c.2).1⟩, (sqR c.2).2) else (⟨a.1, b.1, c.1, (txtR c.2).1, false, Sq.zero⟩, (txtR c.2).2)
def rulesR : Nat → Rd → List Rule × Rd
  | 0, r => ([], r)
  | k + 1, r => if r.bad then ([], r) else ((ruleR r).1 :: (rulesR k (ruleR r).2).1, (rulesR k (ruleR r).2).2)
def clsR (r : Rd) : Cls × Rd := (⟨(txtR r).1, (autoR (txtR r).2).1⟩, (autoR (txtR r).2).2)
def classesR : Nat → Rd → List Cls × Rd
  | 0, r => ([], r)
  | k + 1, r => if r.bad then ([], r) else ((clsR r).1 :: (classesR k (clsR r).2).1, (classesR k (clsR r).2).2)
def imgR (r : Rd) : Img × Rd :=
  let n := numR r
  let x := rulesR n.1 n.2
  let m := numR x.2
  let y := classesR m.1 m.2
  (⟨x.1, y.1⟩, y.2)
def decodeR (ok : List B → Bool) (b : List B) : Except Int Img :=
  if b.length < 9 then .error 6 else
  if headOk b = false then .error 4 else
  if (b.drop 9).length < tells b then .error 6 else
  if tells b < (b.drop 9).length then .error 4 else
  if sumL (b.drop 9) ≠ 256 * byteAt b 7 + byteAt b 8 then .error 5 else
  if (imgR ⟨b.drop 9, false⟩).2.bad || (!(imgR ⟨b.drop 9, false⟩).2.b.isEmpty || !imgOk ok (imgR ⟨b.drop 9, false⟩).1) then .error 4 else .ok (imgR ⟨b.drop 9, false⟩).1

/-! what is written is read -/
theorem one1_cons (c : B) (t : List B) (b : Bool) : one1 ⟨c :: t, b⟩ = (c.toNat, ⟨t, b⟩) := rfl
theorem numR_enc {n : Int} (r : List B) (h0 : 0 ≤ n) (h1 : n < 65536) : numR ⟨eNum n ++ r, false⟩ = (n.toNat, ⟨r, false⟩) := by
  unfold numR eNum
  simp only [List.cons_append, List.nil_append, one1_cons, byte_of]
  congr 1
  omega
theorem txtR_enc {s : List B} (r : List B) (h1 : s.length < 65536) : txtR ⟨eText s ++ r, false⟩ = (s, ⟨r, false⟩) := by
  unfold txtR eText
  rw [List.append_assoc, numR_enc _ (by omega) (by omega)]
  simp only [Int.toNat_natCast]
  rw [if_neg (by simp)]
  simp
theorem bitR_enc (e : Bool) (r : List B) : bitR ⟨eBit e ++ r, false⟩ = (e, ⟨r, false⟩) := by
  unfold bitR eBit
  cases e <;> simp [one1_cons]
theorem onesR_enc (r : List B) : ∀ (l : List Int), (∀ c ∈ l, 0 ≤ c ∧ c < 256) → onesR l.length ⟨eClass l ++ r, false⟩ = (l, ⟨r, false⟩)
  | [], _ => rfl
  | c :: l, h => by
    have hc := h c (by simp)
    have ih := onesR_enc r l (fun y hy => h y (by simp [hy]))
    have e : eClass (c :: l) ++ r = UInt8.ofNat c.toNat :: (eClass l ++ r) := rfl
    rw [e]
    simp only [List.length_cons, onesR, one1_cons, ih, byte_of]
    congr 2
    omega
theorem numsR_enc (r : List B) : ∀ (l : List Int), (∀ z ∈ l, 0 ≤ z ∧ z < 65536) → numsR l.length ⟨eNums l ++ r, false⟩ = (l, ⟨r, false⟩)
  | [], _ => rfl
  | z :: l, h => by
    have hz := h z (by simp)
    have ih := numsR_enc r l (fun y hy => h y (by simp [hy]))
    have e : eNums (z :: l) ++ r = eNum z ++ (eNums l ++ r) := by simp [eNums]
    rw [e]
    simp only [List.length_cons, numsR, numR_enc _ hz.1 hz.2, ih]
    simp
    omega
theorem statesR_enc (c n : Nat) (hn : n ≤ 1024) (r : List B) : ∀ (es : List Bool) (xs : List (List Int)), es.length = xs.length → (∀ x ∈ xs, rowOk c n x = true) →
    statesR c xs.length ⟨eStates es xs ++ r, false⟩ = ((es, xs), ⟨r, false⟩)
  | [], [], _, _ => rfl
  | [], _ :: _, h, _ => by simp at h
  | _ :: _, [], h, _ => by simp at h
  | e :: es, x :: xs, h, hx => by
    have ih := statesR_enc c n hn r es xs (by simpa using h) (fun y hy => hx y (by simp [hy]))
    have h1 := hx x (by simp)
    simp only [rowOk, Bool.and_eq_true, decide_eq_true_eq, List.all_eq_true] at h1
    have hn' := numsR_enc (eStates es xs ++ r) x (fun z hz => by have := h1.2 z hz; omega)
    rw [h1.1] at hn'
    have e1 : eStates (e :: es) (x :: xs) ++ r = eBit e ++ (eNums x ++ (eStates es xs ++ r)) := by simp [eStates]
    rw [e1]
    simp only [List.length_cons, statesR, bitR_enc, hn', ih]
    simp
theorem autoR_enc {d : Dfa} (hok : dfaOk d = true) (r : List B) : autoR ⟨eDfa d ++ r, false⟩ = (d, ⟨r, false⟩) := by
  obtain ⟨m, h⟩ := dfaOk_is hok
  obtain ⟨p1, p2, p3, p4⟩ := parts_spec _ _ _ h.parts
  rw [h.len] at p2
  have hc : classesIn d.cls = m := p4
  have e : eDfa d ++ r = eNum d.next.length ++ (eNum (classesIn d.cls) ++ (eClass d.cls ++ (eStates d.fin d.next ++ r))) := by simp [eDfa]
  have hfew := h.few
  have n1 := numR_enc (n := d.next.length) (eNum (classesIn d.cls) ++ (eClass d.cls ++ (eStates d.fin d.next ++ r))) (by omega) (by omega)
  have n2 := numR_enc (n := classesIn d.cls) (eClass d.cls ++ (eStates d.fin d.next ++ r)) (by omega) (by omega)
  have n3 := onesR_enc (eStates d.fin d.next ++ r) d.cls (fun c hc => by have := p3 c hc; omega)
  rw [h.len] at n3
  have n4 := statesR_enc m d.next.length h.few r d.fin d.next h.fin h.rows
  have n5 : (classesIn d.cls).toNat = m := by rw [hc]; rfl
  have hh : autoHead ⟨eDfa d ++ r, false⟩ = (d.next.length, m, d.cls, ⟨eStates d.fin d.next ++ r, false⟩) := by
    rw [e]
    unfold autoHead
    simp only [n1, n2, n3, n5, Int.toNat_natCast]
    rw [decide_eq_false (by omega), decide_eq_false (by omega)]
    rfl
  unfold autoR
  rw [hh]
  simp only [n4]
  rw [show (⟨d.cls, d.next, d.fin⟩ : Dfa) = d from rfl, hok]
  rfl
theorem arcsR_enc (n : Nat) (hn : n ≤ 1024) (r : List B) : ∀ (zs : List Int) (os : List (List B)) (pz : List Int) (po : List (List B)) (last : Int), zs.length = os.length → pz.length = po.length → pz.length + zs.length ≤ 256 → last < pz.length → arcsOk n zs os = true →
    arcsR (arcsIn zs) last (pz ++ List.replicate zs.length (-1), po ++ List.replicate os.length []) ⟨eArcs pz.length zs os ++ r, false⟩ = ((pz ++ zs, po ++ os), ⟨r, false⟩)
  | [], [], pz, po, _, _, _, _, _, _ => by simp [arcsIn, arcsR, eArcs]
  | [], _ :: _, _, _, _, h, _, _, _, _ => by simp at h
  | _ :: _, [], _, _, _, h, _, _, _, _ => by simp at h
  | z :: zs, o :: os, pz, po, last, h, hp, hl, hlast, hok => by
    simp only [arcsOk, Bool.and_eq_true] at hok
    obtain ⟨h1, h2⟩ := hok
    simp only [arcOk, Bool.and_eq_true, decide_eq_true_eq, Bool.not_eq_true', Bool.and_eq_false_iff, decide_eq_false_iff_not, Decidable.not_not] at h1
    obtain ⟨⟨⟨h3, h4⟩, h5⟩, h6⟩ := h1
    simp only [List.length_cons] at h hl
    by_cases hz : 0 ≤ z
    · have ih := arcsR_enc n hn r zs os (pz ++ [z]) (po ++ [o]) pz.length (by omega) (by simp; omega) (by simp; omega) (by simp; omega) h2
      rw [List.length_append, List.length_singleton, List.append_assoc, List.append_assoc, List.append_assoc, List.append_assoc] at ih
      have e1 : arcsIn (z :: zs) = arcsIn zs + 1 := by simp [arcsIn, hz]
      have e2 : eArcs pz.length (z :: zs) (o :: os) ++ r = UInt8.ofNat pz.length :: (eNum z ++ (eText o ++ (eArcs (pz.length + 1) zs os ++ r))) := by simp [eArcs, hz, eArc]
      have n2 := numR_enc (n := z) (eText o ++ (eArcs (pz.length + 1) zs os ++ r)) hz (by omega)
      have n3 := txtR_enc (s := o) (eArcs (pz.length + 1) zs os ++ r) (by omega)
      have n4 : (UInt8.ofNat pz.length).toNat = pz.length := by rw [byte_of]; omega
      rw [e1, e2]
      unfold arcsR
      simp only [one1_cons, n4]
      rw [decide_eq_false (show ¬ ((pz.length : Int) ≤ last) by omega)]
      simp only [Bool.or_false, n2, n3, Bool.false_eq_true, if_false]
      have s1 : (pz ++ List.replicate (zs.length + 1) (-1)).set pz.length (z.toNat : Int) = pz ++ ([z] ++ List.replicate zs.length (-1)) := by
        rw [List.set_append_right _ _ (Nat.le_refl _)]
        simp [List.replicate_succ]
        omega
      have s2 : (po ++ List.replicate (os.length + 1) []).set pz.length o = po ++ ([o] ++ List.replicate os.length []) := by
        rw [List.set_append_right _ _ (by omega), hp]
        simp [List.replicate_succ]
      simp only [List.length_cons]
      rw [s1, s2]
      exact ih
    · have ih := arcsR_enc n hn r zs os (pz ++ [z]) (po ++ [o]) last (by omega) (by simp; omega) (by simp; omega) (by simp; omega) h2
      rw [List.length_append, List.length_singleton, List.append_assoc, List.append_assoc, List.append_assoc, List.append_assoc] at ih
      have e0 : z = -1 := by omega
      have e3 : o = [] := by
        rcases h6 with h6 | h6
        · exact absurd e0 h6
        · exact h6
      subst e0 e3
      have e1 : arcsIn (-1 :: zs) = arcsIn zs := by simp [arcsIn]
      have e2 : eArcs pz.length (-1 :: zs) ([] :: os) ++ r = eArcs (pz.length + 1) zs os ++ r := by simp [eArcs]
      rw [e1, e2]
      simpa [List.replicate_succ] using ih
theorem sstateR_enc (n : Nat) (hn : n ≤ 1024) (x : List Int) (o : List (List B)) (e : Bool) (t : List B) (r : List B) (ht : t.length ≤ 4096) (he : e = true ∨ t = []) (hx : sRowOk n x o = true) :
    sstateR ⟨eBit e ++ (eTail e t ++ (eNum (arcsIn x) ++ (eArcs 0 x o ++ r))), false⟩ = (⟨x, o, e, t⟩, ⟨r, false⟩) := by
  simp only [sRowOk, Bool.and_eq_true, decide_eq_true_eq] at hx
  obtain ⟨⟨h1, h2⟩, h3⟩ := hx
  have hle := arcsIn_le x
  have n1 := bitR_enc e (eTail e t ++ (eNum (arcsIn x) ++ (eArcs 0 x o ++ r)))
  have n2 : tailR e ⟨eTail e t ++ (eNum (arcsIn x) ++ (eArcs 0 x o ++ r)), false⟩ = (t, ⟨eNum (arcsIn x) ++ (eArcs 0 x o ++ r), false⟩) := by
    unfold tailR eTail
    cases e with
    | true => exact txtR_enc _ (by omega)
    | false => simp at he; subst he; rfl
  have n3 := numR_enc (n := arcsIn x) (eArcs 0 x o ++ r) (by omega) (by omega)
  have n4 := arcsR_enc n hn r x o [] [] (-1) (by omega) rfl (by simp; omega) (by simp) h3
  simp only [List.nil_append, List.length_nil, h1, h2] at n4
  have n5 : rowR ⟨eNum (arcsIn x) ++ (eArcs 0 x o ++ r), false⟩ = ((x, o), ⟨r, false⟩) := by
    unfold rowR
    simp only [n3, Int.toNat_natCast]
    exact n4
  unfold sstateR
  simp only [n1, n2, n5]
theorem sstatesR_enc (n : Nat) (hn : n ≤ 1024) (r : List B) : ∀ (xs : List (List Int)) (os : List (List (List B))) (es : List Bool) (ts : List (List B)), os.length = xs.length → es.length = xs.length → ts.length = xs.length → sStatesOk n xs os es ts = true →
    ((sstatesR xs.length ⟨eSStates xs os es ts ++ r, false⟩).1.map (·.next) = xs ∧ (sstatesR xs.length ⟨eSStates xs os es ts ++ r, false⟩).1.map (·.outs) = os ∧ (sstatesR xs.length ⟨eSStates xs os es ts ++ r, false⟩).1.map (·.fin) = es ∧ (sstatesR xs.length ⟨eSStates xs os es ts ++ r, false⟩).1.map (·.tail) = ts) ∧ (sstatesR xs.length ⟨eSStates xs os es ts ++ r, false⟩).2 = ⟨r, false⟩
  | [], os, es, ts, h1, h2, h3, _ => by
    have e1 := List.eq_nil_of_length_eq_zero h1
    have e2 := List.eq_nil_of_length_eq_zero h2
    have e3 := List.eq_nil_of_length_eq_zero h3
    subst e1 e2 e3
    exact ⟨⟨rfl, rfl, rfl, rfl⟩, rfl⟩
  | x :: xs, [], _, _, h, _, _, _ => by simp at h
  | x :: xs, _ :: _, [], _, _, h, _, _ => by simp at h
  | x :: xs, _ :: _, _ :: _, [], _, _, h, _ => by simp at h
  | x :: xs, o :: os, e :: es, t :: ts, h1, h2, h3, hok => by
    simp only [sStatesOk, Bool.and_eq_true, Bool.or_eq_true, decide_eq_true_eq] at hok
    obtain ⟨⟨⟨k1, k2⟩, k3⟩, k4⟩ := hok
    have ih := sstatesR_enc n hn r xs os es ts (by simpa using h1) (by simpa using h2) (by simpa using h3) k4
    have n1 := sstateR_enc n hn x o e t (eSStates xs os es ts ++ r) k1 k2 k3
    have e1 : eSStates (x :: xs) (o :: os) (e :: es) (t :: ts) ++ r = eBit e ++ (eTail e t ++ (eNum (arcsIn x) ++ (eArcs 0 x o ++ (eSStates xs os es ts ++ r)))) := by simp [eSStates]
    rw [e1]
    have e2 : sstatesR (x :: xs).length ⟨eBit e ++ (eTail e t ++ (eNum (arcsIn x) ++ (eArcs 0 x o ++ (eSStates xs os es ts ++ r)))), false⟩ = (⟨x, o, e, t⟩ :: (sstatesR xs.length ⟨eSStates xs os es ts ++ r, false⟩).1, (sstatesR xs.length ⟨eSStates xs os es ts ++ r, false⟩).2) := by
      simp only [List.length_cons, sstatesR, n1]
      simp
    rw [e2]
    simp only [List.map_cons, ih.1.1, ih.1.2.1, ih.1.2.2.1, ih.1.2.2.2, ih.2, and_self]
theorem sqR_enc {q : Sq} (h : sqOk q = true) (r : List B) : sqR ⟨eSq q ++ r, false⟩ = (q, ⟨r, false⟩) := by
  have h := sqOk_is h
  have hf := h.front
  have hfew := h.few
  have e : eSq q ++ r = eText q.front ++ (eNum q.next.length ++ (eSStates q.next q.outs q.fin q.tail ++ r)) := by simp [eSq]
  have n1 := txtR_enc (s := q.front) (eNum q.next.length ++ (eSStates q.next q.outs q.fin q.tail ++ r)) (by omega)
  have n2 := numR_enc (n := q.next.length) (eSStates q.next q.outs q.fin q.tail ++ r) (by omega) (by omega)
  have n3 := sstatesR_enc q.next.length hfew r q.next q.outs q.fin q.tail h.outs h.fin h.tail h.rows
  rw [e]
  unfold sqR
  simp only [n1, n2, Int.toNat_natCast]
  rw [decide_eq_false (show ¬ 1024 < q.next.length by omega)]
  simp only [Bool.or_false, n3.1.1, n3.1.2.1, n3.1.2.2.1, n3.1.2.2.2, n3.2]
theorem ruleR_enc {x : Rule} (h : ruleOk x = true) (r : List B) : ruleR ⟨eRule x ++ r, false⟩ = (x, ⟨r, false⟩) := by
  obtain ⟨a, b, c, o, m, q⟩ := x
  simp only [ruleOk, Bool.and_eq_true] at h
  obtain ⟨⟨⟨h1, h2⟩, h3⟩, h4⟩ := h
  have e : eRule ⟨a, b, c, o, m, q⟩ ++ r = eBit m ++ (eDfa a ++ (eDfa b ++ (eDfa c ++ (eBy ⟨a, b, c, o, m, q⟩ ++ r)))) := by simp [eRule]
  rw [e]
  unfold ruleR
  simp only [bitR_enc, autoR_enc h1, autoR_enc h2, autoR_enc h3]
  cases m with
  | true =>
    simp only [if_true, Bool.and_eq_true, decide_eq_true_eq] at h4
    obtain ⟨h4, rfl⟩ := h4
    simp only [eBy, if_true, sqR_enc h4]
  | false =>
    simp only [Bool.false_eq_true, if_false, Bool.and_eq_true, decide_eq_true_eq] at h4
    obtain ⟨h4, h5⟩ := h4
    have := sqNone_is h4
    subst this
    simp only [eBy, Bool.false_eq_true, if_false, txtR_enc (s := o) r (by omega)]
theorem rulesR_enc (r : List B) : ∀ (l : List Rule), (∀ x ∈ l, ruleOk x = true) → rulesR l.length ⟨eRules l ++ r, false⟩ = (l, ⟨r, false⟩)
  | [], _ => rfl
  | x :: l, h => by
    have ih := rulesR_enc r l (fun y hy => h y (by simp [hy]))
    have e : eRules (x :: l) ++ r = eRule x ++ (eRules l ++ r) := by simp [eRules]
    rw [e]
    simp only [List.length_cons, rulesR, ruleR_enc (h x (by simp)), ih]
    simp
theorem classesR_enc {ok : List B → Bool} (hok : ∀ s, ok s = true → s.length ≤ 256) (r : List B) : ∀ (l : List Cls), (∀ c ∈ l, ok c.name = true ∧ dfaOk c.of = true) → classesR l.length ⟨eClasses l ++ r, false⟩ = (l, ⟨r, false⟩)
  | [], _ => rfl
  | c :: l, h => by
    have ih := classesR_enc hok r l (fun y hy => h y (by simp [hy]))
    obtain ⟨h1, h2⟩ := h c (by simp)
    have hl := hok _ h1
    have e : eClasses (c :: l) ++ r = eText c.name ++ (eDfa c.of ++ (eClasses l ++ r)) := by simp [eClasses, eCls]
    have n1 := txtR_enc (s := c.name) (eDfa c.of ++ (eClasses l ++ r)) (by omega)
    have n2 : clsR ⟨eText c.name ++ (eDfa c.of ++ (eClasses l ++ r)), false⟩ = (c, ⟨eClasses l ++ r, false⟩) := by
      unfold clsR; rw [n1, autoR_enc h2]
    rw [e]
    simp only [List.length_cons, classesR, n2, ih]
    simp
theorem imgR_enc {ok : List B → Bool} (hok : ∀ s, ok s = true → s.length ≤ 256) {x : Img} (h : imgOk ok x = true) (r : List B) : imgR ⟨eImg x ++ r, false⟩ = (x, ⟨r, false⟩) := by
  simp only [imgOk, Bool.and_eq_true, decide_eq_true_eq, List.all_eq_true] at h
  obtain ⟨⟨⟨h1, h2⟩, h3⟩, h4⟩ := h
  have e : eImg x ++ r = eNum x.rules.length ++ (eRules x.rules ++ (eNum x.classes.length ++ (eClasses x.classes ++ r))) := by simp [eImg]
  have n1 := numR_enc (n := x.rules.length) (eRules x.rules ++ (eNum x.classes.length ++ (eClasses x.classes ++ r))) (by omega) (by omega)
  have n2 := numR_enc (n := x.classes.length) (eClasses x.classes ++ r) (by omega) (by omega)
  rw [e]
  unfold imgR
  simp only [n1, n2, Int.toNat_natCast, rulesR_enc _ _ h2, classesR_enc hok _ _ (classesOk_mem _ _ h4)]
end Go.Proofs.Ytdokeelodcckoaa.Im
