/-
  What is encoded is decoded as it was: the plain law.
-/
import Derived.Test.YtdokeelodcckoaaImgM
namespace Go.Proofs.Ytdokeelodcckoaa.Im

theorem take_app (l r : List B) : take l.length ⟨l ++ r, false⟩ = (l, ⟨r, false⟩) := by
  unfold take
  rw [if_neg (by simp)]
  simp
theorem take_app' {l r : List B} {n : Nat} (h : l.length = n) : take n ⟨l ++ r, false⟩ = (l, ⟨r, false⟩) := by subst h; exact take_app l r
theorem eNum_len (n : Int) : (eNum n).length = 2 := rfl
theorem byte_of (n : Nat) : (UInt8.ofNat n).toNat = n % 256 := by simp
theorem num_enc {n m : Int} (r : List B) (h0 : 0 ≤ n) (h1 : n ≤ m) (h2 : m < 65536) : num m ⟨eNum n ++ r, false⟩ = (n, ⟨r, false⟩) := by
  unfold num
  rw [take_app' (eNum_len n)]
  have e : (256 * (byteAt (eNum n) 0 : Int) + byteAt (eNum n) 1) = n := by
    simp only [byteAt, eNum, List.getD_cons_zero, List.getD_cons_succ, byte_of]
    omega
  simp only [e]
  rw [if_neg (by omega)]
theorem txt_enc {s : List B} {m : Int} (r : List B) (h1 : (s.length : Int) ≤ m) (h2 : m < 65536) : txt m ⟨eText s ++ r, false⟩ = (s, ⟨r, false⟩) := by
  unfold txt eText
  rw [List.append_assoc, num_enc _ (by omega) h1 h2]
  exact take_app' (by simp)
theorem bit_enc (e : Bool) (r : List B) : bit ⟨eBit e ++ r, false⟩ = (e, ⟨r, false⟩) := by
  unfold bit
  rw [take_app' (show (eBit e).length = 1 from rfl)]
  cases e <;> simp [eBit, byteAt]
theorem nums_enc {m : Int} (h2 : m < 65536) (r : List B) : ∀ (l : List Int), (∀ z ∈ l, 0 ≤ z ∧ z ≤ m) → nums m l.length ⟨eNums l ++ r, false⟩ = (l, ⟨r, false⟩)
  | [], _ => rfl
  | z :: l, h => by
    have hz := h z (by simp)
    have ih := nums_enc h2 r l (fun y hy => h y (by simp [hy]))
    have e : eNums (z :: l) ++ r = eNum z ++ (eNums l ++ r) := by simp [eNums]
    rw [e]
    show ((num m _).1 :: (nums m l.length (num m _).2).1, (nums m l.length (num m _).2).2) = _
    rw [num_enc _ hz.1 hz.2 h2, ih]
theorem states_enc (c n : Nat) (hn : n ≤ 1024) (r : List B) : ∀ (es : List Bool) (xs : List (List Int)), es.length = xs.length → (∀ x ∈ xs, rowOk c n x = true) →
    states c xs.length ⟨eStates es xs ++ r, false⟩ = ((es, xs), ⟨r, false⟩)
  | [], [], _, _ => rfl
  | [], _ :: _, h, _ => by simp at h
  | _ :: _, [], h, _ => by simp at h
  | e :: es, x :: xs, h, hx => by
    have ih := states_enc c n hn r es xs (by simpa using h) (fun y hy => hx y (by simp [hy]))
    have h1 := hx x (by simp)
    simp only [rowOk, Bool.and_eq_true, decide_eq_true_eq, List.all_eq_true] at h1
    have hn' := nums_enc (m := 1024) (by omega) (eStates es xs ++ r) x (fun z hz => by have := h1.2 z hz; omega)
    rw [h1.1] at hn'
    have e1 : eStates (e :: es) (x :: xs) ++ r = eBit e ++ (eNums x ++ (eStates es xs ++ r)) := by simp [eStates]
    rw [e1]
    simp only [List.length_cons, states, bit_enc, hn', ih]
    simp
theorem parts_spec : ∀ (l : List Int) (n m : Nat), parts n l = some m → n ≤ m ∧ m ≤ n + l.length ∧ (∀ c ∈ l, 0 ≤ c ∧ c < m) ∧ l.foldl (fun a c => max a (c + 1)) (n : Int) = m
  | [], n, m, h => by
    simp only [parts, Option.some.injEq] at h
    subst h
    exact ⟨Nat.le_refl _, by simp, by simp, rfl⟩
  | c :: l, n, m, h => by
    unfold parts at h
    split at h
    · cases h
    · rename_i hc
      split at h
      · rename_i he
        obtain ⟨h1, h2, h3, h4⟩ := parts_spec l (n + 1) m h
        refine ⟨by omega, by simp; omega, ?_, ?_⟩
        · intro y hy
          rcases List.mem_cons.1 hy with rfl | hy
          · omega
          · exact h3 y hy
        · rw [List.foldl_cons, ← h4]
          congr 1
          rw [he]; omega
      · rename_i he
        obtain ⟨h1, h2, h3, h4⟩ := parts_spec l n m h
        refine ⟨by omega, by simp; omega, ?_, ?_⟩
        · intro y hy
          rcases List.mem_cons.1 hy with rfl | hy
          · omega
          · exact h3 y hy
        · rw [List.foldl_cons]
          have : max (n : Int) (c + 1) = n := by omega
          rw [this]; exact h4
theorem ints_eClass : ∀ (l : List Int), (∀ c ∈ l, 0 ≤ c ∧ c < 256) → ints (eClass l) = l
  | [], _ => rfl
  | c :: l, h => by
    have hc := h c (by simp)
    have ih := ints_eClass l (fun y hy => h y (by simp [hy]))
    unfold ints eClass at ih ⊢
    simp only [List.map_cons, ih, byte_of]
    congr 1
    omega
structure DfaIs (d : Dfa) (m : Nat) : Prop where
  parts : parts 0 d.cls = some m
  len : d.cls.length = 256
  some : 1 ≤ d.next.length
  few : d.next.length ≤ 1024
  fin : d.fin.length = d.next.length
  rows : ∀ x ∈ d.next, rowOk m d.next.length x = true
theorem dfaOk_is {d : Dfa} (h : dfaOk d = true) : ∃ m, DfaIs d m := by
  unfold dfaOk partsOf at h
  split at h
  · cases h
  · rename_i m hm
    split at hm
    · rename_i hl
      simp only [Bool.and_eq_true, decide_eq_true_eq, List.all_eq_true] at h
      exact ⟨m, hm, hl, h.1.1.1, h.1.1.2, h.1.2, h.2⟩
    · cases hm
theorem auto_enc {d : Dfa} (h : dfaOk d = true) (r : List B) : auto ⟨eDfa d ++ r, false⟩ = (d, ⟨r, false⟩) := by
  obtain ⟨m, h⟩ := dfaOk_is h
  obtain ⟨p1, p2, p3, p4⟩ := parts_spec _ _ _ h.parts
  rw [h.len] at p2
  have hc : classesIn d.cls = m := p4
  have e : eDfa d ++ r = eNum d.next.length ++ (eNum (classesIn d.cls) ++ (eClass d.cls ++ (eStates d.fin d.next ++ r))) := by simp [eDfa]
  have hfew := h.few
  have n1 := num_enc (n := d.next.length) (m := 1024) (eNum (classesIn d.cls) ++ (eClass d.cls ++ (eStates d.fin d.next ++ r))) (by omega) (by omega) (by omega)
  have n2 := num_enc (n := classesIn d.cls) (m := 256) (eClass d.cls ++ (eStates d.fin d.next ++ r)) (by omega) (by omega) (by omega)
  have n3 := take_app' (l := eClass d.cls) (n := 256) (r := eStates d.fin d.next ++ r) (by unfold eClass; rw [List.length_map]; exact h.len)
  have n4 := states_enc m d.next.length h.few r d.fin d.next h.fin h.rows
  have n5 : (classesIn d.cls).toNat = m := by rw [hc]; rfl
  rw [e]
  unfold auto
  simp only [n1, n2, n3, n5, Int.toNat_natCast, n4]
  rw [ints_eClass _ (fun c hc => by have := p3 c hc; omega)]
/-! transducers -/
theorem arcs_enc (n : Nat) (hn : n ≤ 1024) (r : List B) : ∀ (zs : List Int) (os : List (List B)) (pz : List Int) (po : List (List B)), zs.length = os.length → pz.length = po.length → pz.length + zs.length ≤ 256 → arcsOk n zs os = true →
    arcs (arcsIn zs) (pz ++ List.replicate zs.length (-1), po ++ List.replicate os.length []) ⟨eArcs pz.length zs os ++ r, false⟩ = ((pz ++ zs, po ++ os), ⟨r, false⟩)
  | [], [], pz, po, _, _, _, _ => by simp [arcsIn, arcs, eArcs]
  | [], _ :: _, _, _, h, _, _, _ => by simp at h
  | _ :: _, [], _, _, h, _, _, _ => by simp at h
  | z :: zs, o :: os, pz, po, h, hp, hl, hok => by
    simp only [arcsOk, Bool.and_eq_true] at hok
    obtain ⟨h1, h2⟩ := hok
    simp only [arcOk, Bool.and_eq_true, decide_eq_true_eq, Bool.not_eq_true', Bool.and_eq_false_iff, decide_eq_false_iff_not, Decidable.not_not] at h1
    obtain ⟨⟨⟨h3, h4⟩, h5⟩, h6⟩ := h1
    simp only [List.length_cons] at h hl
    have ih := arcs_enc n hn r zs os (pz ++ [z]) (po ++ [o]) (by omega) (by simp; omega) (by simp; omega) h2
    rw [List.length_append, List.length_singleton, List.append_assoc, List.append_assoc, List.append_assoc, List.append_assoc] at ih
    by_cases hz : 0 ≤ z
    · have e1 : arcsIn (z :: zs) = arcsIn zs + 1 := by simp [arcsIn, hz]
      have e2 : eArcs pz.length (z :: zs) (o :: os) ++ r = [UInt8.ofNat pz.length] ++ (eNum z ++ (eText o ++ (eArcs (pz.length + 1) zs os ++ r))) := by simp [eArcs, hz, eArc]
      have n1 := take_app' (l := [UInt8.ofNat pz.length]) (n := 1) (r := eNum z ++ (eText o ++ (eArcs (pz.length + 1) zs os ++ r))) rfl
      have n2 := num_enc (n := z) (m := 1024) (eText o ++ (eArcs (pz.length + 1) zs os ++ r)) hz (by omega) (by omega)
      have n3 := txt_enc (s := o) (m := 4096) (eArcs (pz.length + 1) zs os ++ r) (by omega) (by omega)
      have n4 : byteAt [UInt8.ofNat pz.length] 0 = pz.length := by simp only [byteAt, List.getD_cons_zero, byte_of]; omega
      rw [e1, e2]
      unfold arcs
      simp only [n1, n2, n3, n4]
      have s1 : (pz ++ List.replicate (z :: zs).length (-1)).set pz.length z = pz ++ ([z] ++ List.replicate zs.length (-1)) := by
        rw [List.set_append_right _ _ (Nat.le_refl _)]
        simp [List.replicate_succ]
      have s2 : (po ++ List.replicate (o :: os).length []).set pz.length o = po ++ ([o] ++ List.replicate os.length []) := by
        rw [List.set_append_right _ _ (by omega), hp]
        simp [List.replicate_succ]
      rw [s1, s2]
      exact ih
    · have e0 : z = -1 := by omega
      have e3 : o = [] := by
        rcases h6 with h6 | h6
        · exact absurd e0 h6
        · exact h6
      subst e0 e3
      have e1 : arcsIn (-1 :: zs) = arcsIn zs := by simp [arcsIn]
      have e2 : eArcs pz.length (-1 :: zs) ([] :: os) ++ r = eArcs (pz.length + 1) zs os ++ r := by simp [eArcs]
      rw [e1, e2]
      simpa [List.replicate_succ] using ih
theorem arcsIn_le (l : List Int) : arcsIn l ≤ l.length := List.length_filter_le _ _
theorem sstate_enc (n : Nat) (hn : n ≤ 1024) (x : List Int) (o : List (List B)) (e : Bool) (t : List B) (r : List B) (ht : t.length ≤ 4096) (he : e = true ∨ t = []) (hx : sRowOk n x o = true) :
    sstate ⟨eBit e ++ (eTail e t ++ (eNum (arcsIn x) ++ (eArcs 0 x o ++ r))), false⟩ = (⟨x, o, e, t⟩, ⟨r, false⟩) := by
  simp only [sRowOk, Bool.and_eq_true, decide_eq_true_eq] at hx
  obtain ⟨⟨h1, h2⟩, h3⟩ := hx
  have hle := arcsIn_le x
  have n1 := bit_enc e (eTail e t ++ (eNum (arcsIn x) ++ (eArcs 0 x o ++ r)))
  have n2 : tailOf e ⟨eTail e t ++ (eNum (arcsIn x) ++ (eArcs 0 x o ++ r)), false⟩ = (t, ⟨eNum (arcsIn x) ++ (eArcs 0 x o ++ r), false⟩) := by
    unfold tailOf eTail
    cases e with
    | true => exact txt_enc _ (by omega) (by omega)
    | false => simp at he; subst he; rfl
  have n3 := num_enc (n := arcsIn x) (m := 256) (eArcs 0 x o ++ r) (by omega) (by omega) (by omega)
  have n4 := arcs_enc n hn r x o [] [] (by omega) rfl (by simp; omega) h3
  simp only [List.nil_append, List.length_nil, h1, h2] at n4
  unfold sstate
  simp only [n1, n2, n3, Int.toNat_natCast]
  show (SRow.mk (arcs (arcsIn x) (List.replicate 256 (-1), List.replicate 256 []) _).1.1 _ _ _, _) = _
  unfold blank
  rw [n4]
theorem sstates_enc (n : Nat) (hn : n ≤ 1024) (r : List B) : ∀ (xs : List (List Int)) (os : List (List (List B))) (es : List Bool) (ts : List (List B)), os.length = xs.length → es.length = xs.length → ts.length = xs.length → sStatesOk n xs os es ts = true →
    ((sstates xs.length ⟨eSStates xs os es ts ++ r, false⟩).1.map (·.next) = xs ∧ (sstates xs.length ⟨eSStates xs os es ts ++ r, false⟩).1.map (·.outs) = os ∧ (sstates xs.length ⟨eSStates xs os es ts ++ r, false⟩).1.map (·.fin) = es ∧ (sstates xs.length ⟨eSStates xs os es ts ++ r, false⟩).1.map (·.tail) = ts) ∧ (sstates xs.length ⟨eSStates xs os es ts ++ r, false⟩).2 = ⟨r, false⟩
  | [], os, es, ts, h1, h2, h3, _ => by
    have e1 := List.eq_nil_of_length_eq_zero h1
    have e2 := List.eq_nil_of_length_eq_zero h2
    have e3 := List.eq_nil_of_length_eq_zero h3
    subst e1 e2 e3
    exact ⟨⟨rfl, rfl, rfl, rfl⟩, rfl⟩
  | x :: xs, [], _, _, h, _, _, _ => by simp at h
  | x :: xs, _ :: _, [], _, _, h, _, _ => by simp at h
  | x :: xs, _ :: _, _ :: _, [], _, _, h, _ => by simp at h
  | x :: xs, o :: os, e :: es, t :: ts, h1, h2, h3, hok => by
    simp only [sStatesOk, Bool.and_eq_true, Bool.or_eq_true, decide_eq_true_eq] at hok
    obtain ⟨⟨⟨k1, k2⟩, k3⟩, k4⟩ := hok
    have ih := sstates_enc n hn r xs os es ts (by simpa using h1) (by simpa using h2) (by simpa using h3) k4
    have n1 := sstate_enc n hn x o e t (eSStates xs os es ts ++ r) k1 k2 k3
    have e1 : eSStates (x :: xs) (o :: os) (e :: es) (t :: ts) ++ r = eBit e ++ (eTail e t ++ (eNum (arcsIn x) ++ (eArcs 0 x o ++ (eSStates xs os es ts ++ r)))) := by simp [eSStates]
    rw [e1]
    have e2 : sstates (x :: xs).length ⟨eBit e ++ (eTail e t ++ (eNum (arcsIn x) ++ (eArcs 0 x o ++ (eSStates xs os es ts ++ r)))), false⟩ = (⟨x, o, e, t⟩ :: (sstates xs.length ⟨eSStates xs os es ts ++ r, false⟩).1, (sstates xs.length ⟨eSStates xs os es ts ++ r, false⟩).2) := by
      simp only [List.length_cons, sstates, n1]
      simp
    rw [e2]
    simp only [List.map_cons, ih.1.1, ih.1.2.1, ih.1.2.2.1, ih.1.2.2.2, ih.2, and_self]
structure SqIs (q : Sq) : Prop where
  few : q.next.length ≤ 1024
  outs : q.outs.length = q.next.length
  fin : q.fin.length = q.next.length
  tail : q.tail.length = q.next.length
  front : q.front.length ≤ 4096
  rows : sStatesOk q.next.length q.next q.outs q.fin q.tail = true
theorem sqOk_is {q : Sq} (h : sqOk q = true) : SqIs q := by
  simp only [sqOk, Bool.and_eq_true, decide_eq_true_eq] at h
  exact ⟨h.1.1.1.1.1.1, h.1.1.1.1.1.2, h.1.1.1.1.2, h.1.1.1.2, h.1.1.2, h.2⟩
theorem sq_enc {q : Sq} (h : sqOk q = true) (r : List B) : sq ⟨eSq q ++ r, false⟩ = (q, ⟨r, false⟩) := by
  have h := sqOk_is h
  have hf := h.front
  have hfew := h.few
  have e : eSq q ++ r = eText q.front ++ (eNum q.next.length ++ (eSStates q.next q.outs q.fin q.tail ++ r)) := by simp [eSq]
  have n1 := txt_enc (s := q.front) (m := 4096) (eNum q.next.length ++ (eSStates q.next q.outs q.fin q.tail ++ r)) (by omega) (by omega)
  have n2 := num_enc (n := q.next.length) (m := 1024) (eSStates q.next q.outs q.fin q.tail ++ r) (by omega) (by omega) (by omega)
  have n3 := sstates_enc q.next.length hfew r q.next q.outs q.fin q.tail h.outs h.fin h.tail h.rows
  rw [e]
  unfold sq
  simp only [n1, n2, Int.toNat_natCast, n3.1.1, n3.1.2.1, n3.1.2.2.1, n3.1.2.2.2, n3.2]
theorem sqNone_is {q : Sq} (h : sqNone q = true) : q = Sq.zero := by
  obtain ⟨a, b, c, d, e⟩ := q
  simp only [sqNone, Bool.and_eq_true, decide_eq_true_eq, List.length_eq_zero_iff] at h
  obtain ⟨⟨⟨⟨rfl, rfl⟩, rfl⟩, rfl⟩, rfl⟩ := h
  rfl
theorem rule_enc {x : Rule} (h : ruleOk x = true) (r : List B) : rule ⟨eRule x ++ r, false⟩ = (x, ⟨r, false⟩) := by
  obtain ⟨a, b, c, o, m, q⟩ := x
  simp only [ruleOk, Bool.and_eq_true] at h
  obtain ⟨⟨⟨h1, h2⟩, h3⟩, h4⟩ := h
  have e : eRule ⟨a, b, c, o, m, q⟩ ++ r = eBit m ++ (eDfa a ++ (eDfa b ++ (eDfa c ++ (eBy ⟨a, b, c, o, m, q⟩ ++ r)))) := by simp [eRule]
  rw [e]
  unfold rule
  simp only [bit_enc, auto_enc h1, auto_enc h2, auto_enc h3]
  cases m with
  | true =>
    simp only [if_true, Bool.and_eq_true, decide_eq_true_eq] at h4
    obtain ⟨h4, rfl⟩ := h4
    simp only [eBy, if_true, sq_enc h4]
  | false =>
    simp only [Bool.false_eq_true, if_false, Bool.and_eq_true, decide_eq_true_eq] at h4
    obtain ⟨h4, h5⟩ := h4
    have := sqNone_is h4
    subst this
    simp only [eBy, Bool.false_eq_true, if_false, txt_enc (s := o) (m := 256) r (by omega) (by omega)]
theorem rules_enc (r : List B) : ∀ (l : List Rule), (∀ x ∈ l, ruleOk x = true) → rules l.length ⟨eRules l ++ r, false⟩ = (l, ⟨r, false⟩)
  | [], _ => rfl
  | x :: l, h => by
    have ih := rules_enc r l (fun y hy => h y (by simp [hy]))
    have e : eRules (x :: l) ++ r = eRule x ++ (eRules l ++ r) := by simp [eRules]
    rw [e]
    simp only [List.length_cons, rules, rule_enc (h x (by simp)), ih]
    simp
theorem classesOk_mem {ok : List B → Bool} : ∀ (l : List Cls) (seen : List (List B)), classesOk ok seen l = true → ∀ c ∈ l, ok c.name = true ∧ dfaOk c.of = true
  | [], _, _, c, hc => by cases hc
  | x :: l, seen, h, c, hc => by
    simp only [classesOk, Bool.and_eq_true] at h
    rcases List.mem_cons.1 hc with rfl | hc
    · exact ⟨h.1.1.1, h.1.2⟩
    · exact classesOk_mem l _ h.2 c hc
theorem classes_enc {ok : List B → Bool} (hok : ∀ s, ok s = true → s.length ≤ 256) (r : List B) : ∀ (l : List Cls), (∀ c ∈ l, ok c.name = true ∧ dfaOk c.of = true) → classes l.length ⟨eClasses l ++ r, false⟩ = (l, ⟨r, false⟩)
  | [], _ => rfl
  | c :: l, h => by
    have ih := classes_enc hok r l (fun y hy => h y (by simp [hy]))
    obtain ⟨h1, h2⟩ := h c (by simp)
    have hl := hok _ h1
    have e : eClasses (c :: l) ++ r = eText c.name ++ (eDfa c.of ++ (eClasses l ++ r)) := by simp [eClasses, eCls]
    have n1 := txt_enc (s := c.name) (m := 256) (eDfa c.of ++ (eClasses l ++ r)) (by omega) (by omega)
    have n2 : cls ⟨eText c.name ++ (eDfa c.of ++ (eClasses l ++ r)), false⟩ = (c, ⟨eClasses l ++ r, false⟩) := by
      unfold cls; rw [n1, auto_enc h2]
    rw [e]
    simp only [List.length_cons, classes, n2, ih]
    simp
theorem img_enc {ok : List B → Bool} (hok : ∀ s, ok s = true → s.length ≤ 256) {x : Img} (h : imgOk ok x = true) (r : List B) : img ⟨eImg x ++ r, false⟩ = (x, ⟨r, false⟩) := by
  simp only [imgOk, Bool.and_eq_true, decide_eq_true_eq, List.all_eq_true] at h
  obtain ⟨⟨⟨h1, h2⟩, h3⟩, h4⟩ := h
  have e : eImg x ++ r = eNum x.rules.length ++ (eRules x.rules ++ (eNum x.classes.length ++ (eClasses x.classes ++ r))) := by simp [eImg]
  have n1 := num_enc (n := x.rules.length) (m := 64) (eRules x.rules ++ (eNum x.classes.length ++ (eClasses x.classes ++ r))) (by omega) (by omega) (by omega)
  have n2 := num_enc (n := x.classes.length) (m := 64) (eClasses x.classes ++ r) (by omega) (by omega) (by omega)
  rw [e]
  unfold img
  simp only [n1, n2, Int.toNat_natCast, rules_enc _ _ h2, classes_enc hok _ _ (classesOk_mem _ _ h4)]
/-! the head -/
theorem sum_step (n : Nat) (x : B) : (31 * n + x.toNat + 1) % 65521 < 65521 := Nat.mod_lt _ (by omega)
theorem sumL_lt' : ∀ (l : List B) (n : Nat), n < 65521 → l.foldl (fun n x => (31 * n + x.toNat + 1) % 65521) n < 65521
  | [], _, h => h
  | x :: l, n, _ => sumL_lt' l _ (sum_step n x)
theorem sumL_lt (l : List B) : sumL l < 65521 := sumL_lt' l 1 (by omega)
theorem headL_len (c : List B) : (headL c).length = 9 := rfl
theorem byteAt_app {a b : List B} {i : Nat} (h : i < a.length) : byteAt (a ++ b) i = byteAt a i := by
  unfold byteAt
  rw [List.getD_eq_getElem?_getD, List.getD_eq_getElem?_getD, List.getElem?_append_left h]
theorem tells_head (c r : List B) (h : c.length ≤ most) : tells (headL c ++ r) = c.length := by
  unfold most at h
  unfold tells
  rw [byteAt_app (by simp [headL]), byteAt_app (by simp [headL]), byteAt_app (by simp [headL]), byteAt_app (by simp [headL])]
  simp only [byteAt, headL, List.getD_cons_zero, List.getD_cons_succ, byte_of]
  omega
theorem sum_head (c r : List B) : 256 * byteAt (headL c ++ r) 7 + byteAt (headL c ++ r) 8 = sumL c := by
  have := sumL_lt c
  rw [byteAt_app (by simp [headL]), byteAt_app (by simp [headL])]
  simp only [byteAt, headL, List.getD_cons_zero, List.getD_cons_succ, byte_of]
  omega
theorem headOk_head (c r : List B) (h : c.length ≤ most) : headOk (headL c ++ r) = true := by
  unfold headOk
  rw [tells_head c r h, byteAt_app (by simp [headL]), byteAt_app (by simp [headL]), byteAt_app (by simp [headL])]
  simp [byteAt, headL, h]
theorem encode_ok {ok : List B → Bool} {x : Img} {a : List B} (h : encode ok x = (a, 0)) : imgOk ok x = true ∧ (eImg x).length ≤ most ∧ a = headL (eImg x) ++ eImg x := by
  unfold encode at h
  split at h
  · rename_i h1
    split at h
    · cases h
    · rename_i h2
      cases h
      exact ⟨h1, by omega, rfl⟩
  · cases h
/-- what is encoded is decoded as it was -/
theorem decode_enc {ok : List B → Bool} (hok : ∀ s, ok s = true → s.length ≤ 256) {x : Img} {a : List B} (h : encode ok x = (a, 0)) : decode ok a = .ok x := by
  obtain ⟨h1, h2, h3⟩ := encode_ok h
  have hd : a.drop 9 = eImg x := by rw [h3, List.drop_append_of_le_length (by rw [headL_len]; omega)]; rfl
  have hl : ¬ a.length < 9 := by rw [h3, List.length_append, headL_len]; omega
  have ht : tells a = (eImg x).length := by rw [h3]; exact tells_head _ _ h2
  have hh : headOk a = true := by rw [h3]; exact headOk_head _ _ h2
  have hs : 256 * byteAt a 7 + byteAt a 8 = sumL (eImg x) := by rw [h3]; exact sum_head _ _
  have hi := img_enc hok h1 []
  rw [List.append_nil] at hi
  unfold decode
  rw [if_neg hl, if_neg (by rw [hh]; simp), hd, ht, if_neg (Nat.lt_irrefl _), if_neg (Nat.lt_irrefl _), if_neg (by rw [hs]; simp)]
  simp only [hi]
  rw [h]
  simp
end Go.Proofs.Ytdokeelodcckoaa.Im
