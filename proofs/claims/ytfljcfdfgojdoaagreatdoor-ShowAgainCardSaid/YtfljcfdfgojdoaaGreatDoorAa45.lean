/-
  Plain: what is written of items that may be is lexed and parsed as they were.
  An item in memory, and what tells whether it is right; plain.
  Plain: what tells whether an item is right, and what may be one.
-/
import Derived.Test.YtfljcfdfgojdoaaGreatDoorAa44
import Derived.Test.YtfljcfdfgojdoaaGreatDoorAa42
import Derived.Test.YtfljcfdfgojdoaaGreatDoorAa19
namespace Go.Proofs.YtfljcfdfgojdoaaGreatDoor.Sh
open Go.RowKit Go.Lib Go.Proofs.YtfljcfdfgojdoaaGreatDoor

def arrT : Tok := ⟨4, [45, 62], Se.none, 0, 0⟩
/-- the tokens of an item -/
def itemT (x : It) : List Tok :=
  if x.kind = 1 then nT [100, 101, 102] :: nT x.name :: sb 61 :: (reT x.re ++ [sb 59])
  else if x.kind = 4 then nT [116, 111, 107, 101, 110] :: nT x.name :: sb 61 :: (reT x.re ++ [sb 59])
  else if x.kind = 2 then nT [109, 97, 112] :: nT x.name :: sb 61 :: (mpT x.map ++ [sb 59])
  else nT [114, 117, 108, 101] :: (reT x.re ++ arrT :: (if x.by_ = [] then tT x.out else nT x.by_) ::
    ((if x.around = true then sb 47 :: (reT x.left ++ nT [95] :: reT x.right) else []) ++ [sb 59]))
theorem _root_.Go.Proofs.YtfljcfdfgojdoaaGreatDoor.Lexes.word {c : B} {r z : List B} {m : List Tok} (h : Lexes z m) (hc : letterB c.toNat = true) (hx : (c :: r).takeWhile nameB = c :: r) (hl : (c :: r).length ≤ 31) (hz : Brk z) : Lexes (c :: r ++ z) (nT (c :: r) :: m) := by
  have ht := name_tok hc hx hl hz
  have hd : (c :: r ++ z).drop (c :: r).length = z := by simp
  rw [List.cons_append] at ht hd ⊢
  refine Lexes.step (letter_white hc) ht ?_
  rw [hd]
  exact h
theorem _root_.Go.Proofs.YtfljcfdfgojdoaaGreatDoor.Lexes.line {r : List B} {l : List Tok} (h : Lexes r l) : Lexes (10 :: r) l := h.same rfl
theorem _root_.Go.Proofs.YtfljcfdfgojdoaaGreatDoor.Lexes.semi8 {r : List B} {l : List Tok} (h : Lexes r l) : Lexes (59 :: r) (sb 59 :: l) := h.sign rfl rfl
theorem _root_.Go.Proofs.YtfljcfdfgojdoaaGreatDoor.Lexes.eq8 {r : List B} {l : List Tok} (h : Lexes r l) : Lexes (61 :: r) (sb 61 :: l) := h.sign rfl rfl
theorem _root_.Go.Proofs.YtfljcfdfgojdoaaGreatDoor.Lexes.over {r : List B} {l : List Tok} (h : Lexes r l) : Lexes (47 :: r) (sb 47 :: l) := h.sign rfl rfl
theorem _root_.Go.Proofs.YtfljcfdfgojdoaaGreatDoor.Lexes.arrow {r : List B} {l : List Tok} (h : Lexes r l) : Lexes (45 :: 62 :: r) (arrT :: l) := .step (c := 45) (r1 := 62 :: r) (n := 2) rfl rfl h
theorem gapN (z : List B) : Brk (32 :: z) := .of (by decide)
/-- a written item is lexed into its tokens -/
theorem lex_item {n : Nat} {x : It} (hx : OkIt n x) {z : List B} {m : List Tok} (hz : Lexes z m) : Lexes (itemW setS x ++ z) (itemT x ++ m) := by
  have hend : Lexes (59 :: 10 :: z) (sb 59 :: m) := hz.line.semi8
  have hbr : Brk (59 :: 10 :: z) := .of (by decide)
  have pR : ∀ {r : Re}, GoodR n r → Piece (reW setS r) (reT r) := fun h => lex_re 133 _ h.ok h.se
  have hto : ∀ {o b : List B} {y : List B} {k : List Tok}, o.length ≤ 256 → (b = [] ∨ (o = [] ∧ GoodN b)) → Brk y → Lexes y k → Lexes ((if b = [] then textW o else b) ++ y) ((if b = [] then tT o else nT b) :: k) := fun {o b y k} ho hb hy h => by
    rcases hb with rfl | ⟨rfl, hb⟩
    · exact h.textW ho
    · rw [if_neg hb.ne, if_neg hb.ne]
      exact h.name hb.ok hb.len hy
  cases hx with
  | named k s r hk hs hr =>
    have h1 := ((((((pR hr) _ _ hbr hend).gap.eq8).gap).name hs.ok hs.len (gapN _)).gap)
    rcases hk with rfl | rfl
    · have h2 := h1.word (c := 100) (r := [101, 102]) (by decide) (by decide) (by decide) (gapN _)
      simpa [itemW, itemT] using h2
    · have h2 := h1.word (c := 116) (r := [111, 107, 101, 110]) (by decide) (by decide) (by decide) (gapN _)
      simpa [itemW, itemT] using h2
  | map s mp hs hm =>
    have h1 := (((((lex_mp 100 _ hm.ok hm.se) _ _ hbr hend).gap.eq8).gap).name hs.ok hs.len (gapN _)).gap
    have h2 := h1.word (c := 109) (r := [97, 112]) (by decide) (by decide) (by decide) (gapN _)
    simpa [itemW, itemT] using h2
  | rule r o b hr ho hb =>
    have h1 := ((pR hr) _ _ (gapN _) ((hto ho hb hbr hend).gap.arrow).gap).gap
    have h2 := h1.word (c := 114) (r := [117, 108, 101]) (by decide) (by decide) (by decide) (gapN _)
    simpa [itemW, itemT] using h2
  | around r o b l q hr ho hb hl hq =>
    have h0 := (((pR hq) _ _ hbr hend).gap.word (c := 95) (r := []) (by decide) (by decide) (by decide) (gapN _)).gap
    have h3 := (((pR hl) _ _ (gapN _) h0).gap.over).gap
    have h1 := ((pR hr) _ _ (gapN _) ((hto ho hb (gapN _) h3).gap.arrow).gap).gap
    have h2 := h1.word (c := 114) (r := [117, 108, 101]) (by decide) (by decide) (by decide) (gapN _)
    simpa [itemW, itemT] using h2
theorem lex_items {n : Nat} : ∀ {l : List It}, (∀ x ∈ l, OkIt n x) → Lexes (l.flatMap (itemW setS)) (l.flatMap itemT)
  | [], _ => .nil
  | x :: l, h => by
    rw [List.flatMap_cons, List.flatMap_cons]
    exact lex_item (h x List.mem_cons_self) (lex_items fun y hy => h y (List.mem_cons_of_mem _ hy))
-- parsing
theorem nx_semi : Nx 0 (sb 59) := ⟨fun _ => ⟨rfl, rfl, rfl, rfl⟩, fun _ => ⟨rfl, rfl⟩, fun _ => rfl, fun _ => rfl⟩
theorem nx_arr : Nx 0 arrT := ⟨fun _ => ⟨rfl, rfl, rfl, rfl⟩, fun _ => ⟨rfl, rfl⟩, fun _ => rfl, fun _ => rfl⟩
theorem nx_low : Nx 0 (nT [95]) := ⟨fun _ => ⟨rfl, rfl, rfl, rfl⟩, fun _ => ⟨rfl, rfl⟩, fun _ => rfl, fun _ => rfl⟩
theorem mnx_semi : MNx 0 (sb 59) := ⟨rfl, fun _ => ⟨rfl, rfl, rfl⟩, fun _ => rfl, fun _ => rfl⟩
theorem TA.len {T : List Tok} : ∀ {l : List Tok} {a : Nat}, TA T a l → (∀ t ∈ l, t.kind ≠ 0) → a ≤ T.length → a + l.length ≤ T.length
  | [], a, _, _, h => by simpa using h
  | t :: l, a, h, hk, ha => by
    have h1 := (base_parts h.1).1
    have := kind_lt (T := T) (a := a) (by rw [h1]; exact hk t List.mem_cons_self)
    have := h.2.len (fun t ht => hk t (List.mem_cons_of_mem _ ht)) (by omega)
    simp only [List.length_cons]
    omega
theorem TA.kind {T : List Tok} {a : Nat} {t : Tok} {l : List Tok} (h : TA T a (t :: l)) : (tokAt T a).kind = t.kind := (base_parts h.1).1
theorem TA.text {T : List Tok} {a : Nat} {t : Tok} {l : List Tok} (h : TA T a (t :: l)) : (tokAt T a).text = t.text := (base_parts h.1).2.1
section
variable {T : List Tok}
theorem name_here {a : Nat} {s : List B} {l : List Tok} (hs : GoodN s) (h : TA T a (nT s :: l)) : nameM T a = .ok (s, a + 1) := by
  obtain ⟨_, _, _, _, _, hr⟩ := name_of hs.ok
  have h1 : (tokAt T a).kind = 1 := h.kind
  have h2 : (tokAt T a).text = s := h.text
  unfold nameM
  simp only [h1, h2, hr]
  simp
theorem re_here {n a : Nat} {r : Re} {t : Tok} {l : List Tok} (hr : GoodR n r) (ht : Nx 0 t) (h : TA T a (reT r ++ t :: l)) (hl : a + (reT r).length ≤ T.length) : altM notNone T 33 a 0 = .ok (r, a + (reT r).length) ∧ TA T (a + (reT r).length) (t :: l) := by
  obtain ⟨h1, h2⟩ := TA.app.1 h
  have ea : askT r 0 = reT r := by unfold askT; rw [if_neg (by omega)]
  have hg := good_re T 133 r hr.ok 0 (by omega) a 0 32 40 (by rw [askD_zero]; have := hr.d; omega) (by omega) (by omega) (by rw [ea]; exact h1) (by rw [ea]; exact hl) (by rw [ea]; exact ht.same h2.1)
  rw [ea] at hg
  exact ⟨by rw [Pq_alt 32 T 40, hg], h2⟩
theorem mp_here {n a : Nat} {r : Mp} {t : Tok} {l : List Tok} (hr : GoodM n r) (ht : MNx 0 t) (h : TA T a (mpT r ++ t :: l)) (hl : a + (mpT r).length ≤ T.length) : mAltM T 33 a 0 = .ok (r, a + (mpT r).length) ∧ TA T (a + (mpT r).length) (t :: l) := by
  obtain ⟨h1, h2⟩ := TA.app.1 h
  have ea : maskT r 0 = mpT r := by unfold maskT; rw [if_neg (by omega)]
  have hg := good_mp T 100 r hr.ok 0 (by omega) a 0 32 (by rw [maskD_zero]; have := hr.d; omega) (by omega) (by rw [ea]; exact h1) (by rw [ea]; exact hl) (by rw [ea]; exact ht.same h2.1)
  rw [ea] at hg
  exact ⟨by rw [Mq_alt 32 T, hg], h2⟩
/-- the tokens of an item are parsed as that item -/
theorem item_here {n a : Nat} {x : It} {l : List Tok} (hx : OkIt n x) (h : TA T a (itemT x ++ l)) (hl : a + (itemT x).length ≤ T.length) :
    (tokAt T a).kind = 1 ∧ kindOf (tokAt T a).text ≠ 0 ∧ itemM (kindOf (tokAt T a).text) T (a + 1) 0 = .ok (x, a + (itemT x).length - 1) ∧ isB (tokAt T (a + (itemT x).length - 1)) [59] = true ∧ TA T (a + (itemT x).length) l := by
  have semi : ∀ {b : Nat} {l : List Tok}, TA T b (sb 59 :: l) → isB (tokAt T b) [59] = true := fun h => by rw [h.isB]; rfl
  cases hx with
  | named k s r hk hs hr =>
    have key : ∀ w : List B, kindOf w ≠ 0 → itemM (kindOf w) T (a + 1) 0 = namedM k T (a + 1) 0 → itemT ⟨k, s, r, Mp.zero, [], [], false, Re.zero, Re.zero⟩ = nT w :: nT s :: sb 61 :: (reT r ++ [sb 59]) →
        (tokAt T a).kind = 1 ∧ kindOf (tokAt T a).text ≠ 0 ∧ itemM (kindOf (tokAt T a).text) T (a + 1) 0 = .ok (⟨k, s, r, Mp.zero, [], [], false, Re.zero, Re.zero⟩, a + (itemT ⟨k, s, r, Mp.zero, [], [], false, Re.zero, Re.zero⟩).length - 1) ∧ isB (tokAt T (a + (itemT ⟨k, s, r, Mp.zero, [], [], false, Re.zero, Re.zero⟩).length - 1)) [59] = true ∧ TA T (a + (itemT ⟨k, s, r, Mp.zero, [], [], false, Re.zero, Re.zero⟩).length) l := fun w hw hi he => by
      rw [he] at h hl ⊢
      have el : a + (nT w :: nT s :: sb 61 :: (reT r ++ [sb 59])).length = a + 1 + 1 + 1 + (reT r).length + 1 := by simp; omega
      rw [el] at hl ⊢
      simp only [List.cons_append, List.append_assoc, List.nil_append] at h
      have t1 : (tokAt T a).text = w := h.text
      have b1 := name_here hs h.2
      have b2 : isB (tokAt T (a + 1 + 1)) [61] = true := by rw [h.2.2.isB]; rfl
      obtain ⟨b3, b4⟩ := re_here hr nx_semi h.2.2.2 (by omega)
      rw [t1, hi, Nat.add_sub_cancel]
      refine ⟨h.kind, hw, ?_, semi b4, b4.2⟩
      unfold namedM
      rw [b1]
      simp only
      rw [if_pos b2, b3]
    rcases hk with rfl | rfl
    · exact key [100, 101, 102] (by decide) rfl rfl
    · exact key [116, 111, 107, 101, 110] (by decide) rfl rfl
  | map s m hs hm =>
    have he : itemT ⟨2, s, Re.zero, m, [], [], false, Re.zero, Re.zero⟩ = nT [109, 97, 112] :: nT s :: sb 61 :: (mpT m ++ [sb 59]) := rfl
    rw [he] at h hl ⊢
    have el : a + (nT [109, 97, 112] :: nT s :: sb 61 :: (mpT m ++ [sb 59])).length = a + 1 + 1 + 1 + (mpT m).length + 1 := by simp; omega
    rw [el] at hl ⊢
    simp only [List.cons_append, List.append_assoc, List.nil_append] at h
    have t1 : (tokAt T a).text = [109, 97, 112] := h.text
    have b1 := name_here hs h.2
    have b2 : isB (tokAt T (a + 1 + 1)) [61] = true := by rw [h.2.2.isB]; rfl
    obtain ⟨b3, b4⟩ := mp_here hm mnx_semi h.2.2.2 (by omega)
    rw [t1, Nat.add_sub_cancel]
    refine ⟨h.kind, by decide, ?_, semi b4, b4.2⟩
    show mapItemM T (a + 1) 0 = _
    unfold mapItemM
    rw [b1]
    simp only
    rw [if_pos b2, b3]
  | rule r o b hr ho hb =>
    have he : itemT ⟨3, [], r, Mp.zero, o, b, false, Re.zero, Re.zero⟩ = nT [114, 117, 108, 101] :: (reT r ++ arrT :: (if b = [] then tT o else nT b) :: [sb 59]) := rfl
    rw [he] at h hl ⊢
    have el : a + (nT [114, 117, 108, 101] :: (reT r ++ arrT :: (if b = [] then tT o else nT b) :: [sb 59])).length = a + 1 + (reT r).length + 1 + 1 + 1 := by simp; omega
    rw [el] at hl ⊢
    simp only [List.cons_append, List.append_assoc, List.nil_append] at h
    have t1 : (tokAt T a).text = [114, 117, 108, 101] := h.text
    obtain ⟨b1, b2⟩ := re_here hr nx_arr h.2 (by omega)
    have b3 : isB (tokAt T (a + 1 + (reT r).length)) [45, 62] = true := by rw [b2.isB]; rfl
    have b4 : ruleOut T (a + 1 + (reT r).length + 1) = .ok ((o, b), a + 1 + (reT r).length + 1 + 1) := by
      rcases hb with rfl | ⟨rfl, hb⟩
      · have k1 : (tokAt T (a + 1 + (reT r).length + 1)).kind = 2 := b2.2.kind
        have k2 : (tokAt T (a + 1 + (reT r).length + 1)).text = o := b2.2.text
        unfold ruleOut
        rw [if_pos (by rw [k1]; rfl), k2]
      · have b5 := b2.2
        rw [if_neg hb.ne] at b5
        have k1 : (tokAt T (a + 1 + (reT r).length + 1)).kind = 1 := b5.kind
        unfold ruleOut
        rw [if_neg (by rw [k1]; decide), name_here hb b5]
    have b6 := b2.2.2
    have b7 : isB (tokAt T (a + 1 + (reT r).length + 1 + 1)) [47] = false := by rw [b6.isB]; rfl
    rw [t1, Nat.add_sub_cancel]
    refine ⟨h.kind, by decide, ?_, semi b6, b6.2⟩
    show ruleM T (a + 1) 0 = _
    unfold ruleM
    rw [b1]
    simp only
    rw [if_pos b3, b4]
    simp only
    unfold ruleTail
    rw [if_neg (by rw [b7]; decide)]
  | around r o b q1 q2 hr ho hb hq1 hq2 =>
    have he : itemT ⟨3, [], r, Mp.zero, o, b, true, q1, q2⟩ = nT [114, 117, 108, 101] :: (reT r ++ arrT :: (if b = [] then tT o else nT b) :: (sb 47 :: (reT q1 ++ nT [95] :: reT q2) ++ [sb 59])) := rfl
    rw [he] at h hl ⊢
    have el : a + (nT [114, 117, 108, 101] :: (reT r ++ arrT :: (if b = [] then tT o else nT b) :: (sb 47 :: (reT q1 ++ nT [95] :: reT q2) ++ [sb 59]))).length = a + 1 + (reT r).length + 1 + 1 + 1 + (reT q1).length + 1 + (reT q2).length + 1 := by simp; omega
    rw [el] at hl ⊢
    simp only [List.cons_append, List.append_assoc, List.nil_append] at h
    have t1 : (tokAt T a).text = [114, 117, 108, 101] := h.text
    obtain ⟨b1, b2⟩ := re_here hr nx_arr h.2 (by omega)
    have b3 : isB (tokAt T (a + 1 + (reT r).length)) [45, 62] = true := by rw [b2.isB]; rfl
    have b4 : ruleOut T (a + 1 + (reT r).length + 1) = .ok ((o, b), a + 1 + (reT r).length + 1 + 1) := by
      rcases hb with rfl | ⟨rfl, hb⟩
      · have k1 : (tokAt T (a + 1 + (reT r).length + 1)).kind = 2 := b2.2.kind
        have k2 : (tokAt T (a + 1 + (reT r).length + 1)).text = o := b2.2.text
        unfold ruleOut
        rw [if_pos (by rw [k1]; rfl), k2]
      · have b5 := b2.2
        rw [if_neg hb.ne] at b5
        have k1 : (tokAt T (a + 1 + (reT r).length + 1)).kind = 1 := b5.kind
        unfold ruleOut
        rw [if_neg (by rw [k1]; decide), name_here hb b5]
    have b6 := b2.2.2
    have b7 : isB (tokAt T (a + 1 + (reT r).length + 1 + 1)) [47] = true := by rw [b6.isB]; rfl
    obtain ⟨c1, c2⟩ := re_here hq1 nx_low b6.2 (by omega)
    have k1 : (tokAt T (a + 1 + (reT r).length + 1 + 1 + 1 + (reT q1).length)).kind = 1 := c2.kind
    have k2 : (tokAt T (a + 1 + (reT r).length + 1 + 1 + 1 + (reT q1).length)).text = [95] := c2.text
    obtain ⟨d1, d2⟩ := re_here hq2 nx_semi c2.2 (by omega)
    rw [t1, Nat.add_sub_cancel]
    refine ⟨h.kind, by decide, ?_, semi d2, d2.2⟩
    show ruleM T (a + 1) 0 = _
    unfold ruleM
    rw [b1]
    simp only
    rw [if_pos b3, b4]
    simp only
    unfold ruleTail
    rw [if_pos b7, c1]
    simp only
    rw [if_neg (by rw [k2]; decide), if_neg (by rw [k1]; decide), d1]
theorem item_tok {n : Nat} {x : It} (_hx : OkIt n x) : 1 ≤ (itemT x).length := by
  unfold itemT
  split
  · simp
  · split
    · simp
    · split <;> simp
theorem file_here {n : Nat} : ∀ (l acc : List It) (a f : Nat), (∀ x ∈ l, OkIt n x) → acc.length + l.length ≤ 256 → l.length < f → TA T a (l.flatMap itemT) → a + (l.flatMap itemT).length ≤ T.length → (tokAt T (a + (l.flatMap itemT).length)).kind = 0 →
    fileLoop T 0 f acc a = .ok (acc ++ l, a + (l.flatMap itemT).length)
  | [], acc, a, 0, _, _, hf, _, _, _ => by simp at hf
  | [], acc, a, f + 1, _, _, _, _, _, hk => by
    have hk' : (tokAt T a).kind = 0 := hk
    rw [fileLoop, if_neg (by rw [hk']; decide), List.append_nil]
    rfl
  | x :: l, acc, a, 0, _, _, hf, _, _, _ => by simp at hf
  | x :: l, acc, a, f + 1, hx, hn, hf, ht, hlen, hk => by
    simp only [List.flatMap_cons] at ht
    have el : a + ((x :: l).flatMap itemT).length = a + (itemT x).length + (l.flatMap itemT).length := by simp [List.flatMap_cons]; omega
    rw [el] at hlen hk ⊢
    simp only [List.length_cons] at hn hf
    have hox := hx x List.mem_cons_self
    have h1 := item_tok hox
    obtain ⟨c1, c2, c3, c4, c5⟩ := item_here hox ht (by omega)
    rw [fileLoop, if_pos (by rw [c1]; decide), if_neg (by omega), if_neg c2, if_neg (by rw [c1]; decide), c3]
    simp only
    rw [if_pos c4, show a + (itemT x).length - 1 + 1 = a + (itemT x).length by omega]
    rw [file_here l (acc ++ [x]) _ f (fun y hy => hx y (List.mem_cons_of_mem _ hy)) (by simp; omega) (by omega) c5 hlen hk]
    simp
end
theorem items_len {n : Nat} : ∀ {l : List It}, (∀ x ∈ l, OkIt n x) → l.length ≤ (l.flatMap itemT).length
  | [], _ => by simp
  | x :: l, h => by
    have h1 := item_tok (h x List.mem_cons_self)
    have h2 := items_len fun y hy => h y (List.mem_cons_of_mem _ hy)
    simp only [List.flatMap_cons, List.length_append, List.length_cons]
    omega
/-- P8.3: written items are parsed as they were -/
theorem file_back {n : Nat} {l : List It} (hx : ∀ x ∈ l, OkIt n x) (hn : l.length ≤ 256) (hl : (l.flatMap (itemW setS)).length ≤ 65536) : parseFile ⟨(l.flatMap (itemW setS)).toArray⟩ = .ok l := by
  have h1 := lex_items hx
  generalize hW : l.flatMap (itemW setS) = W at *
  obtain ⟨ts, h2, h3⟩ := lexes_allT (s := ⟨W.toArray⟩) (ms := l.flatMap itemT) (by simpa using h1) (by show W.toArray.size ≤ _; simpa using hl)
  have hbb : (l.flatMap itemT).map Tok.base = l.flatMap itemT := by
    rw [← h3, List.map_map]
    refine List.map_congr_left fun t _ => ?_
    cases t; rfl
  have hlen : ts.length = (l.flatMap itemT).length := by rw [← h3]; simp
  have hlast : (tokAt (toksOf ⟨W.toArray⟩ ts) ts.length).kind = 0 := by
    have : tokAt (toksOf ⟨W.toArray⟩ ts) ts.length = endTok ⟨W.toArray⟩ := tokAt_of (by unfold toksOf; simp)
    rw [this]; rfl
  have hTl : (toksOf ⟨W.toArray⟩ ts).length = ts.length + 1 := by unfold toksOf; simp
  have hta : TA (toksOf ⟨W.toArray⟩ ts) 0 (l.flatMap itemT) := by
    have := ta_of (l := l.flatMap itemT) (ts := ts) (pre := []) (post := [endTok ⟨W.toArray⟩]) (by rw [h3, hbb])
    simpa [toksOf] using this
  have hll := items_len hx
  unfold parseFile
  rw [h2]
  show closeF (toksOf _ ts) (fileM (toksOf _ ts) 0 0) = _
  generalize toksOf ⟨W.toArray⟩ ts = T at *
  have hg := file_here (T := T) l [] 0 (T.length + 1) hx (by simpa using hn) (by omega) hta (by omega) (by rw [Nat.zero_add, ← hlen]; exact hlast)
  rw [List.nil_append, Nat.zero_add] at hg
  exact closeF_ok _ hg (by rw [← hlen, hlast]; rfl)
end Go.Proofs.YtfljcfdfgojdoaaGreatDoor.Sh

namespace Go.Proofs.YtfljcfdfgojdoaaGreatDoor.Sh
open Go.RowKit Go.Lib Go.Proofs.YtfljcfdfgojdoaaGreatDoor

/-- an item as it lies in its cells -/
structure Iw where
  k : Int
  nm : List B
  r : Rw
  m : Mw
  o : List B
  b : List B
  ar : Bool
  l : Rw
  q : Rw
abbrev Iw.cs (y : Iw) : Array Value := itC y.k y.nm y.r y.m y.o y.b y.ar y.l y.q
structure ItG (F : Nat → Prop) (w : World) (x : It) (y : Iw) : Prop where
  k : y.k = x.kind
  nm : y.nm = x.name
  r : ReG F w x.re y.r.cs
  m : MpG F w x.map y.m
  o : y.o = x.out
  b : y.b = x.by_
  ar : y.ar = x.around
  l : ReG F w x.left y.l.cs
  q : ReG F w x.right y.q.cs
theorem ItG.below {F : Nat → Prop} {w w' : World} {x : It} {y : Iw} (h : ItG F w x y) (hF : ∀ g, F g → g < w.heap.size) (hb : Below w.heap.size w w') : ItG F w' x y :=
  ⟨h.k, h.nm, h.r.below hF hb, h.m.below hF hb, h.o, h.b, h.ar, h.l.below hF hb, h.q.below hF hb⟩
/-- what the switch tells of an item -/
def okI (x : It) : Bool :=
  if x.kind = 1 ∨ x.kind = 4 then nameOk x.name && okB x.re
  else if x.kind = 2 then nameOk x.name && mrightB 200 x.map
  else if x.kind = 3 then ((okB x.re && decide (x.out.length ≤ 256)) && (decide (x.by_ = []) || (decide (x.out = []) && nameOk x.by_))) && (!x.around || (okB x.left && okB x.right))
  else false
/-- what is left to be empty -/
def restI (y : Iw) : Iw :=
  if y.k = 1 ∨ y.k = 4 then ⟨y.k, [], Rw.zero, y.m, y.o, y.b, y.ar, y.l, y.q⟩
  else if y.k = 2 then ⟨y.k, [], y.r, Mw.zero, y.o, y.b, y.ar, y.l, y.q⟩
  else if y.k = 3 then (if y.ar = true then ⟨y.k, y.nm, Rw.zero, y.m, [], [], false, Rw.zero, Rw.zero⟩ else ⟨y.k, y.nm, Rw.zero, y.m, [], [], y.ar, y.l, y.q⟩)
  else y
def emptyRw (r : Rw) : Bool := emptyB r.k r.x r.s r.n r.mn r.mx
def emptyMw (m : Mw) : Bool := emptyMB m.k m.r m.o m.n m.mn m.mx
def emptyI (y : Iw) : Bool :=
  decide (y.nm = []) && (emptyRw y.r && (emptyMw y.m && (decide (y.o = []) && (decide (y.b = []) && (!y.ar && (emptyRw y.l && emptyRw y.q))))))
def itB (x : It) (y : Iw) : Bool := okI x && emptyI (restI y)
theorem restI_14 {y : Iw} (h : y.k = 1 ∨ y.k = 4) : restI y = ⟨y.k, [], Rw.zero, y.m, y.o, y.b, y.ar, y.l, y.q⟩ := by unfold restI; rw [if_pos h]
theorem restI_2 {y : Iw} (h : y.k = 2) : restI y = ⟨y.k, [], y.r, Mw.zero, y.o, y.b, y.ar, y.l, y.q⟩ := by unfold restI; rw [if_neg (by omega), if_pos h]
theorem restI_3 {y : Iw} (h : y.k = 3) : restI y = (if y.ar = true then ⟨y.k, y.nm, Rw.zero, y.m, [], [], false, Rw.zero, Rw.zero⟩ else ⟨y.k, y.nm, Rw.zero, y.m, [], [], y.ar, y.l, y.q⟩) := by unfold restI; rw [if_neg (by omega), if_neg (by omega), if_pos h]
theorem restI_no {y : Iw} (h1 : ¬ (y.k = 1 ∨ y.k = 4)) (h2 : ¬ y.k = 2) (h3 : ¬ y.k = 3) : restI y = y := by unfold restI; rw [if_neg h1, if_neg h2, if_neg h3]
theorem okI_14 {x : It} (h : x.kind = 1 ∨ x.kind = 4) : okI x = (nameOk x.name && okB x.re) := by unfold okI; rw [if_pos h]
theorem okI_2 {x : It} (h : x.kind = 2) : okI x = (nameOk x.name && mrightB 200 x.map) := by unfold okI; rw [if_neg (by omega), if_pos h]
theorem okI_3 {x : It} (h : x.kind = 3) : okI x = (((okB x.re && decide (x.out.length ≤ 256)) && (decide (x.by_ = []) || (decide (x.out = []) && nameOk x.by_))) && (!x.around || (okB x.left && okB x.right))) := by unfold okI; rw [if_neg (by omega), if_neg (by omega), if_pos h]
theorem okI_no {x : It} (h1 : ¬ (x.kind = 1 ∨ x.kind = 4)) (h2 : ¬ x.kind = 2) (h3 : ¬ x.kind = 3) : okI x = false := by unfold okI; rw [if_neg h1, if_neg h2, if_neg h3]
/-- rows of parts that a slice may have -/
structure FitI (y : Iw) : Prop where
  r : y.r.n ≤ maxLen
  m : y.m.n ≤ maxLen
  mr : y.m.r.n ≤ maxLen
  l : y.l.n ≤ maxLen
  q : y.q.n ≤ maxLen
theorem zero_fit : Rw.zero.n ≤ maxLen := Nat.zero_le _
theorem FitI.rest {y : Iw} (h : FitI y) : FitI (restI y) := by
  unfold restI
  split
  · exact ⟨zero_fit, h.m, h.mr, h.l, h.q⟩
  · split
    · exact ⟨h.r, Nat.zero_le _, Nat.zero_le _, h.l, h.q⟩
    · split
      · split
        · exact ⟨zero_fit, h.m, h.mr, zero_fit, zero_fit⟩
        · exact ⟨zero_fit, h.m, h.mr, h.l, h.q⟩
      · exact h
theorem ItG.fit {F : Nat → Prop} {w : World} {x : It} {y : Iw} (h : ItG F w x y) : FitI y := by
  obtain ⟨xk, xn, xr, xm, xo, xb, xa, xl, xq⟩ := x
  obtain ⟨h1, h2, h3, h4, h5, h6, h7, h8, h9⟩ := h
  obtain ⟨mk, mr, mo, mps, mmn, mmx⟩ := xm
  obtain ⟨_, _, g3, _, _, g6, g7, _⟩ := MpG.open h4
  exact ⟨ReG.rn h3, by rw [g3]; exact g7, ReG.rn g6, ReG.rn h8, ReG.rn h9⟩
end Go.Proofs.YtfljcfdfgojdoaaGreatDoor.Sh

namespace Go.Proofs.YtfljcfdfgojdoaaGreatDoor.Sh
open Go.RowKit Go.Lib Go.Proofs.YtfljcfdfgojdoaaGreatDoor

/-- the same for all places in which an item may lie -/
def iwOf (x : It) : Iw := ⟨x.kind, x.name, rwOf x.re, mwOf x.map, x.out, x.by_, x.around, rwOf x.left, rwOf x.right⟩
def itX (x : It) : Bool := itB x (iwOf x)
theorem ReG.same {F : Nat → Prop} {w : World} {r : Re} {y : Rw} (h : ReG F w r y.cs) : y.k = (rwOf r).k ∧ y.x = (rwOf r).x ∧ y.s = (rwOf r).s ∧ y.n = (rwOf r).n ∧ y.mn = (rwOf r).mn ∧ y.mx = (rwOf r).mx := by
  obtain ⟨k, x, s, ps, mn, mx⟩ := r
  obtain ⟨ad, cap, e, _, _⟩ := h.open
  obtain ⟨yk, yx, ⟨a1, a2, a3, a4⟩, yad, yn, ycap, ymn, ymx⟩ := y
  obtain ⟨b1, b2, b3, b4⟩ := s
  simp only [Rw.cs, reC, Array.mk.injEq, List.cons.injEq, Value.int.injEq, Value.string.injEq, Value.slice.injEq, ByteArray.mk.injEq, true_and, and_true] at e
  obtain ⟨rfl, e2, rfl, rfl, rfl, rfl, ⟨rfl, rfl, rfl⟩, rfl, rfl⟩ := e
  obtain rfl : yx = x := by simpa using e2
  exact ⟨rfl, rfl, rfl, rfl, rfl, rfl⟩
theorem emptyRw_same {F : Nat → Prop} {w : World} {r : Re} {y : Rw} (h : ReG F w r y.cs) : emptyRw y = emptyRw (rwOf r) := by
  obtain ⟨h1, h2, h3, h4, h5, h6⟩ := h.same
  unfold emptyRw
  rw [h1, h2, h3, h4, h5, h6]
theorem emptyMw_same {F : Nat → Prop} {w : World} {m : Mp} {y : Mw} (h : MpG F w m y) : emptyMw y = emptyMw (mwOf m) := by
  obtain ⟨k, r, o, ps, mn, mx⟩ := m
  obtain ⟨h1, h2, h3, h4, h5, h6, _, _⟩ := h.open
  obtain ⟨g1, g2, g3, g4, g5, g6⟩ := h6.same
  unfold emptyMw emptyMB
  rw [g1, g2, g3, g4, g5, g6, h1, h2, h3, h4, h5]
  rfl
theorem itB_same {F : Nat → Prop} {w : World} {x : It} {y : Iw} (h : ItG F w x y) : itB x y = itX x := by
  have e1 := emptyRw_same h.r
  have e2 := emptyMw_same h.m
  have e3 := emptyRw_same h.l
  have e4 := emptyRw_same h.q
  have k := h.k
  have nm := h.nm
  have o := h.o
  have b := h.b
  have ar := h.ar
  obtain ⟨yk, yn, yr, ym, yo, yb, ya, yl, yq⟩ := y
  dsimp only at e1 e2 e3 e4 k nm o b ar
  subst k nm o b ar
  unfold itX itB
  congr 1
  show emptyI (restI _) = emptyI (restI (iwOf x))
  unfold restI iwOf
  dsimp only
  split
  · unfold emptyI; dsimp only; rw [e2, e3, e4]
  · split
    · unfold emptyI; dsimp only; rw [e1, e3, e4]
    · split
      · split
        · unfold emptyI; dsimp only; rw [e2]
        · unfold emptyI; dsimp only; rw [e2, e3, e4]
      · unfold emptyI; dsimp only; rw [e1, e2, e3, e4]
/-- a right item -/
inductive RtIt : It → Prop where
  | named (k : Int) (s : List B) (r : Re) (hk : k = 1 ∨ k = 4) (hs : nameOk s = true) (hr : OkRe 200 r) : RtIt ⟨k, s, r, Mp.zero, [], [], false, Re.zero, Re.zero⟩
  | map (s : List B) (m : Mp) (hs : nameOk s = true) (hm : OkMp 200 m) : RtIt ⟨2, s, Re.zero, m, [], [], false, Re.zero, Re.zero⟩
  | rule (r : Re) (o b : List B) (hr : OkRe 200 r) (ho : o.length ≤ 256) (hb : b = [] ∨ (o = [] ∧ nameOk b = true)) : RtIt ⟨3, [], r, Mp.zero, o, b, false, Re.zero, Re.zero⟩
  | around (r : Re) (o b : List B) (l q : Re) (hr : OkRe 200 r) (ho : o.length ≤ 256) (hb : b = [] ∨ (o = [] ∧ nameOk b = true)) (hl : OkRe 200 l) (hq : OkRe 200 q) : RtIt ⟨3, [], r, Mp.zero, o, b, true, l, q⟩
theorem emptyRw_zero {r : Re} (h : emptyRw (rwOf r) = true) : r = Re.zero := emptyB_zero h
theorem emptyMw_zero {m : Mp} (h : emptyMw (mwOf m) = true) : m = Mp.zero := by
  obtain ⟨k, r, o, ps, mn, mx⟩ := m
  unfold emptyMw emptyMB mwOf at h
  simp only [Bool.and_eq_true, decide_eq_true_eq] at h
  obtain ⟨rfl, h2, rfl, h4, rfl, rfl⟩ := h
  obtain rfl := emptyB_zero h2
  obtain rfl := List.length_eq_zero_iff.1 h4
  rfl
theorem RtIt.yes {x : It} (h : RtIt x) : itX x = true := by
  cases h with
  | named k s r hk hs hr =>
    have h1 : okI ⟨k, s, r, Mp.zero, [], [], false, Re.zero, Re.zero⟩ = true := by
      rw [okI_14 hk]
      simp only [hs, okRe_okB hr (by omega), Bool.and_self]
    unfold itX itB
    rw [h1, restI_14 hk]
    rfl
  | map s m hs hm =>
    have h1 : okI ⟨2, s, Re.zero, m, [], [], false, Re.zero, Re.zero⟩ = true := by
      rw [okI_2 rfl]
      simp only [hs, okMp_to hm 200 (by omega), Bool.and_self]
    unfold itX itB
    rw [h1, restI_2 rfl]
    rfl
  | rule r o b hr ho hb =>
    have h2 : (decide (b = []) || (decide (o = []) && nameOk b)) = true := by
      rcases hb with rfl | ⟨rfl, hb⟩
      · rfl
      · simp [hb]
    have h1 : okI ⟨3, [], r, Mp.zero, o, b, false, Re.zero, Re.zero⟩ = true := by
      rw [okI_3 rfl]
      simp only [okRe_okB hr (by omega), h2, decide_eq_true ho, Bool.and_self, Bool.not_false, Bool.true_or]
    unfold itX itB
    rw [h1, restI_3 rfl]
    rfl
  | around r o b l q hr ho hb hl hq =>
    have h2 : (decide (b = []) || (decide (o = []) && nameOk b)) = true := by
      rcases hb with rfl | ⟨rfl, hb⟩
      · rfl
      · simp [hb]
    have h1 : okI ⟨3, [], r, Mp.zero, o, b, true, l, q⟩ = true := by
      rw [okI_3 rfl]
      simp only [okRe_okB hr (by omega), okRe_okB hl (by omega), okRe_okB hq (by omega), h2, decide_eq_true ho, Bool.and_self, Bool.or_true]
    unfold itX itB
    rw [h1, restI_3 rfl]
    rfl
theorem RtIt.of {x : It} (h : itX x = true) : RtIt x := by
  obtain ⟨k, s, r, m, o, b, ar, l, q⟩ := x
  unfold itX itB at h
  rw [Bool.and_eq_true] at h
  obtain ⟨h1, h2⟩ := h
  by_cases hk : k = 1 ∨ k = 4
  · rw [okI_14 hk, Bool.and_eq_true] at h1
    rw [restI_14 hk] at h2
    unfold emptyI iwOf at h2
    simp only [Bool.and_eq_true, decide_eq_true_eq, Bool.not_eq_true'] at h2
    obtain ⟨_, _, e3, rfl, rfl, rfl, e7, e8⟩ := h2
    obtain rfl := emptyMw_zero e3
    obtain rfl := emptyRw_zero e7
    obtain rfl := emptyRw_zero e8
    exact .named _ _ _ hk h1.1 (okB_of h1.2)
  · by_cases hk2 : k = 2
    · subst hk2
      rw [okI_2 rfl, Bool.and_eq_true] at h1
      rw [restI_2 rfl] at h2
      unfold emptyI iwOf at h2
      simp only [Bool.and_eq_true, decide_eq_true_eq, Bool.not_eq_true'] at h2
      obtain ⟨_, e2, _, rfl, rfl, rfl, e7, e8⟩ := h2
      obtain rfl := emptyRw_zero e2
      obtain rfl := emptyRw_zero e7
      obtain rfl := emptyRw_zero e8
      exact .map _ _ h1.1 (okMp_of h1.2)
    · by_cases hk3 : k = 3
      · subst hk3
        rw [okI_3 rfl] at h1
        rw [restI_3 rfl] at h2
        simp only [Bool.and_eq_true, decide_eq_true_eq, Bool.or_eq_true, Bool.not_eq_true'] at h1
        obtain ⟨⟨⟨a1, a2⟩, a3⟩, a4⟩ := h1
        have hb : b = [] ∨ (o = [] ∧ nameOk b = true) := a3
        cases ar with
        | true =>
          rw [if_pos (show (iwOf ⟨3, s, r, m, o, b, true, l, q⟩).ar = true from rfl)] at h2
          unfold emptyI iwOf at h2
          simp only [Bool.and_eq_true, decide_eq_true_eq, Bool.not_eq_true'] at h2
          obtain ⟨rfl, _, e3, _, _, _, _, _⟩ := h2
          obtain rfl := emptyMw_zero e3
          have a5 := a4.resolve_left (by decide)
          exact .around _ _ _ _ _ (okB_of a1) a2 hb (okB_of a5.1) (okB_of a5.2)
        | false =>
          rw [if_neg (show ¬ (iwOf ⟨3, s, r, m, o, b, false, l, q⟩).ar = true from by intro h; cases h)] at h2
          unfold emptyI iwOf at h2
          simp only [Bool.and_eq_true, decide_eq_true_eq, Bool.not_eq_true'] at h2
          obtain ⟨rfl, _, e3, _, _, _, e7, e8⟩ := h2
          obtain rfl := emptyMw_zero e3
          obtain rfl := emptyRw_zero e7
          obtain rfl := emptyRw_zero e8
          exact .rule _ _ _ (okB_of a1) a2 hb
      · rw [okI_no hk hk2 hk3] at h1
        cases h1
/-- what show.File tells -/
def showFile (l : List It) : List B × Int :=
  if 256 < l.length then ([], 2) else if l.all itX = true then endM (l.flatMap (itemW setS)) ((l.map itemD).foldl max 0) else ([], 1)
end Go.Proofs.YtfljcfdfgojdoaaGreatDoor.Sh
