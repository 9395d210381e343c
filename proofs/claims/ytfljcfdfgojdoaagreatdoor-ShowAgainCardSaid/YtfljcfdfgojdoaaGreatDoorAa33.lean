/-
  Plain: what is written of a map is lexed into its tokens, and these are parsed as that map.
-/
import Derived.Test.YtfljcfdfgojdoaaGreatDoorAa32
namespace Go.Proofs.YtfljcfdfgojdoaaGreatDoor.Sh
open Go.RowKit Go.Lib Go.Proofs.YtfljcfdfgojdoaaGreatDoor

/-- a text, a set or a name -/
inductive LeafR : Re → Prop where
  | mk (k : Int) (x : List B) (s : Se) (h : Node k x s 0 0 0) (hk : k = 1 ∨ k = 2 ∨ k = 3) : LeafR (.mk k x s [] 0 0)
/-- what may stand in one map, its parts aside -/
inductive MNode : Int → Re → List B → Nat → Int → Int → Prop where
  | same (r : Re) (h : LeafR r) : MNode 1 r [] 0 0 0
  | out (r : Re) (o : List B) (h : LeafR r) (ho : o.length ≤ 256) : MNode 2 r o 0 0 0
  | cat (n : Nat) (h : 2 ≤ n) : MNode 3 Re.zero [] n 0 0
  | alt (n : Nat) (h : 2 ≤ n) : MNode 4 Re.zero [] n 0 0
  | rep (a b : Int) (h : (a = 0 ∧ b = -1) ∨ (a = 1 ∧ b = -1) ∨ (a = 0 ∧ b = 1)) : MNode 5 Re.zero [] 1 a b
/-- a map that may be, of no more than so many levels -/
def OkMp : Nat → Mp → Prop
  | 0, _ => False
  | n + 1, .mk k r o ps mn mx => MNode k r o ps.length mn mx ∧ ∀ p ∈ ps, OkMp n p
inductive SeMp : Mp → Prop where
  | mk (k : Int) (r : Re) (o : List B) (ps : List Mp) (mn mx : Int) (h : SeRe r) (hp : ∀ p, p ∈ ps → SeMp p) : SeMp (.mk k r o ps mn mx)
theorem SeMp.re {k : Int} {r : Re} {o : List B} {ps : List Mp} {mn mx : Int} (h : SeMp (.mk k r o ps mn mx)) : SeRe r := by cases h; assumption
theorem SeMp.part {k : Int} {r : Re} {o : List B} {ps : List Mp} {mn mx : Int} (h : SeMp (.mk k r o ps mn mx)) {p : Mp} (hp : p ∈ ps) : SeMp p := by cases h with | mk _ _ _ _ _ _ h1 h2 => exact h2 p hp
def leafTk : Re → Tok | .mk k x s _ _ _ => leafT k x s
mutual
def mpT : Mp → List Tok
  | .mk k r o l lo hi => if k = 5 then mpartsT [] 3 l ++ oftT lo hi else if k = 4 then mpartsT [sb 124] 1 l else if k = 3 then mpartsT [] 2 l
    else leafTk r :: (if k = 2 then [sb 58, tT o] else [])
def mpartsT (sep : List Tok) (asked : Nat) : List Mp → List Tok
  | [] => []
  | m :: l => (if mlev m < asked then sb 40 :: (mpT m ++ [sb 41]) else mpT m) ++ mtailT sep asked l
def mtailT (sep : List Tok) (asked : Nat) : List Mp → List Tok
  | [] => []
  | m :: l => sep ++ ((if mlev m < asked then sb 40 :: (mpT m ++ [sb 41]) else mpT m) ++ mtailT sep asked l)
end
def maskT (m : Mp) (asked : Nat) : List Tok := if mlev m < asked then sb 40 :: (mpT m ++ [sb 41]) else mpT m
-- lexing
theorem mlex_tail {sep : List B} {sT : List Tok} {asked : Nat} (hsep : ∀ z m, Lexes z m → Lexes (sep ++ z) (sT ++ m)) (hbr : ∀ z, Brk (sep ++ z)) :
    ∀ l : List Mp, (∀ p ∈ l, Piece (maskW setS p asked) (maskT p asked)) → Piece (mtailW setS sep asked l) (mtailT sT asked l) ∧ ∀ z, Brk z → Brk (mtailW setS sep asked l ++ z)
  | [], _ => by
    refine ⟨fun z m _ h => ?_, fun z h => ?_⟩
    · rw [mtailW, mtailT]; exact h
    · rw [mtailW]; exact h
  | p :: l, hp => by
    obtain ⟨h1, h2⟩ := mlex_tail hsep hbr l fun q hq => hp q (List.mem_cons_of_mem _ hq)
    refine ⟨fun z m hz h => ?_, fun z _ => ?_⟩
    · rw [mtailW, mtailT]
      show Lexes ((sep ++ (maskW setS p asked ++ mtailW setS sep asked l)) ++ z) ((sT ++ (maskT p asked ++ mtailT sT asked l)) ++ m)
      simp only [List.append_assoc]
      exact hsep _ _ (hp p List.mem_cons_self _ _ (h2 z hz) (h1 z m hz h))
    · rw [mtailW, List.append_assoc]
      exact hbr _
theorem mlex_parts {sep : List B} {sT : List Tok} {asked : Nat} (hsep : ∀ z m, Lexes z m → Lexes (sep ++ z) (sT ++ m)) (hbr : ∀ z, Brk (sep ++ z)) (l : List Mp)
    (hp : ∀ p ∈ l, Piece (maskW setS p asked) (maskT p asked)) : Piece (mpartsW setS sep asked l) (mpartsT sT asked l) := by
  rcases l with _ | ⟨p, l⟩
  · intro z m _ h
    rw [mpartsW, mpartsT]; exact h
  · intro z m hz h
    obtain ⟨h1, h2⟩ := mlex_tail hsep hbr l fun q hq => hp q (List.mem_cons_of_mem _ hq)
    rw [mpartsW, mpartsT]
    show Lexes ((maskW setS p asked ++ mtailW setS sep asked l) ++ z) ((maskT p asked ++ mtailT sT asked l) ++ m)
    simp only [List.append_assoc]
    exact hp p List.mem_cons_self _ _ (h2 z hz) (h1 z m hz h)
theorem mpartsW_one (sep : List B) (asked : Nat) (p : Mp) : mpartsW setS sep asked [p] = maskW setS p asked := by
  rw [mpartsW, mtailW, List.append_nil]; rfl
theorem mpartsT_one (sT : List Tok) (asked : Nat) (p : Mp) : mpartsT sT asked [p] = maskT p asked := by
  rw [mpartsT, mtailT, List.append_nil]; rfl
theorem mone_of {l : List Mp} (h : l.length = 1) : ∃ p, l = [p] := List.length_eq_one_iff.1 h
theorem Piece.mask {r : Mp} (h : Piece (mpW setS r) (mpT r)) (asked : Nat) : Piece (maskW setS r asked) (maskT r asked) := by
  intro z m hz hm
  unfold maskW maskT
  split
  · have := (h (41 :: z) (sb 41 :: m) (.of (by decide)) hm.sht).opn
    simpa using this
  · exact h z m hz hm
theorem leafr_piece {r : Re} (h : LeafR r) (hs : SeRe r) : Piece (leafOf setS r) [leafTk r] := by
  obtain ⟨k, x, s, hn, hk⟩ := h
  exact leaf_piece hn hs.set hk
theorem lex_mp : ∀ (h : Nat) (r : Mp), OkMp h r → SeMp r → Piece (mpW setS r) (mpT r)
  | 0, r, hr, _ => by simp [OkMp] at hr
  | h + 1, .mk k r o ps mn mx, hr, hs => by
    have hr' : MNode k r o ps.length mn mx ∧ ∀ p ∈ ps, OkMp h p := by simpa [OkMp] using hr
    obtain ⟨hn, hp⟩ := hr'
    have ih : ∀ p ∈ ps, ∀ asked, Piece (maskW setS p asked) (maskT p asked) := fun p hpp asked => (lex_mp h p (hp p hpp) (hs.part hpp)).mask asked
    have hre := hs.re
    clear hs hr hp
    generalize hl : ps.length = n at hn
    intro z m hz hm
    rw [mpW, mpT]
    cases hn with
    | same r h =>
      have := leafr_piece h hre z m hz hm
      simpa using this
    | out r o h ho =>
      have := leafr_piece h hre _ _ (.of (by decide)) (hm.textW ho).colon
      simpa using this
    | cat n h =>
      exact mlex_parts (sep := [32]) (sT := []) (fun z m h => h.gap) (fun z => .of (by decide)) ps (fun p hpp => ih p hpp 2) z m hz hm
    | alt n h =>
      exact mlex_parts (sep := [32, 124, 32]) (sT := [sb 124]) (fun z m h => (h.gap.bar).gap) (fun z => .of (by decide)) ps (fun p hpp => ih p hpp 1) z m hz hm
    | rep a b h =>
      obtain ⟨p, rfl⟩ := mone_of hl
      have := ih p List.mem_cons_self 3 _ _ (oftenW_brk _ _ z) (hm.often (by
        rcases h with h | h | ⟨rfl, rfl⟩
        · exact .inl h
        · exact .inr (.inl h)
        · exact .inr (.inr ⟨by decide, by decide, by decide⟩)))
      simp only [if_true, mpartsW_one, mpartsT_one, List.append_assoc]
      exact this
-- parsing
/-- what may stand behind a map that is asked for at a level -/
structure MNx (q : Nat) (t : Tok) : Prop where
  k : isB t [58] = false
  r : q ≤ 2 → isB t [42] = false ∧ isB t [43] = false ∧ isB t [63] = false
  c : q ≤ 1 → beginsB t = false
  o : q = 0 → isB t [124] = false
theorem MNx.mono {q q' : Nat} {t : Tok} (h : MNx q t) (hq : q ≤ q') : MNx q' t :=
  ⟨h.k, fun k => h.r (by omega), fun k => h.c (by omega), fun k => h.o (by omega)⟩
theorem MNx.same {q : Nat} {t t' : Tok} (h : MNx q t) (he : t'.base = t.base) : MNx q t' :=
  ⟨by rw [isB_same he]; exact h.k, fun k => by rw [isB_same he, isB_same he, isB_same he]; exact h.r k, fun k => by rw [begins_same he]; exact h.c k, fun k => by rw [isB_same he]; exact h.o k⟩
theorem MNx.shut : MNx 0 (sb 41) := ⟨rfl, fun _ => ⟨rfl, rfl, rfl⟩, fun _ => rfl, fun _ => rfl⟩
theorem MNx.bar : MNx 1 (sb 124) := ⟨rfl, fun _ => ⟨rfl, rfl, rfl⟩, fun _ => rfl, fun k => by omega⟩
theorem MNx.ends {t : Tok} (h : Ends t) : MNx 0 t :=
  ⟨h.s 58 (by decide), fun _ => ⟨h.s 42 (by decide), h.s 43 (by decide), h.s 63 (by decide)⟩, fun _ => h.b, fun _ => h.s 124 (by decide)⟩
/-- a sign that is none of those that begin or go on -/
theorem MNx.star {q : Nat} {c : B} (h : c = 42 ∨ c = 43 ∨ c = 63) (hq : 3 ≤ q) : MNx q (sb c) := by
  rcases h with rfl | rfl | rfl
  · exact ⟨rfl, fun k => by omega, fun k => by omega, fun k => by omega⟩
  · exact ⟨rfl, fun k => by omega, fun k => by omega, fun k => by omega⟩
  · exact ⟨rfl, fun k => by omega, fun k => by omega, fun k => by omega⟩
def Mq (n : Nat) (T : List Tok) (q a dep : Nat) : RX Mp :=
  match q with
  | 0 => mRowM (mCatM (mRepM (mAtomM (mAltM T n) T) T) T) T a dep
  | 1 => mCatM (mRepM (mAtomM (mAltM T n) T) T) T a dep
  | 2 => mRepM (mAtomM (mAltM T n) T) T a dep
  | _ => mAtomM (mAltM T n) T a dep
theorem Mq_alt (n : Nat) (T : List Tok) (a dep : Nat) : mAltM T (n + 1) a dep = Mq n T 0 a dep := rfl
theorem mdown1 {n : Nat} {T : List Tok} {j a dep e : Nat} {r : Mp} (hj : j < 3) (h : Mq n T (j + 1) a dep = .ok (r, e)) (hx : MNx j (tokAt T e)) : Mq n T j a dep = .ok (r, e) := by
  rcases (by omega : j = 0 ∨ j = 1 ∨ j = 2) with rfl | rfl | rfl
  · have h1 : mCatM (mRepM (mAtomM (mAltM T n) T) T) T a dep = .ok (r, e) := h
    show mRowM _ T a dep = _
    unfold mRowM
    simp only [h1, mRowLoop, hx.o rfl, mjoinM]
    simp
  · have h1 : mRepM (mAtomM (mAltM T n) T) T a dep = .ok (r, e) := h
    show mCatM _ T a dep = _
    unfold mCatM
    simp only [h1, mCatLoop, hx.c (by omega), mjoinM]
    simp
  · have h1 : mAtomM (mAltM T n) T a dep = .ok (r, e) := h
    obtain ⟨c1, c2, c3⟩ := hx.r (by omega)
    show mRepM _ T a dep = _
    unfold mRepM
    simp only [h1, oftenM, c1, c2, c3]
    simp
theorem mdown {n : Nat} {T : List Tok} {a dep e : Nat} {r : Mp} : ∀ (i j : Nat), i + j ≤ 3 → Mq n T (i + j) a dep = .ok (r, e) → MNx j (tokAt T e) → Mq n T j a dep = .ok (r, e)
  | 0, j, _, h, _ => by rw [Nat.zero_add] at h; exact h
  | i + 1, j, hi, h, hx => mdown1 (by omega) (mdown i (j + 1) (by omega) (by rw [show i + (j + 1) = i + 1 + j by omega]; exact h) (hx.mono (by omega))) hx
theorem mlev_le (r : Mp) : mlev r ≤ 3 := by
  obtain ⟨k, _, _, _, _, _⟩ := r
  show mlevK k ≤ 3
  unfold mlevK
  split <;> (try omega)
  split <;> (try omega)
  split <;> omega
def MFirst (l : List Tok) : Prop := ∃ t m, l = t :: m ∧ beginsB t = true ∧ isB t [58] = false
theorem MFirst.app {l m : List Tok} (h : MFirst l) : MFirst (l ++ m) := by
  obtain ⟨t, l', rfl, h1, h2⟩ := h
  exact ⟨t, l' ++ m, rfl, h1, h2⟩
theorem MFirst.pos {l : List Tok} (h : MFirst l) : 1 ≤ l.length := by
  obtain ⟨t, m, rfl, _⟩ := h; simp
theorem begin_not_colon {t : Tok} (h : beginsB t = true) : isB t [58] = false := by
  obtain ⟨k, x, s, n, p⟩ := t
  unfold beginsB isB at *
  simp only at *
  by_cases hk : k = 4
  · subst hk
    simp only [beq_self_eq_true, Bool.true_and, show ((4 : Int) == 2) = false from rfl, show ((4 : Int) == 3) = false from rfl, show ((4 : Int) == 1) = false from rfl, Bool.false_eq_true, or_self, if_false] at h ⊢
    simp only [Bool.or_eq_true, beq_iff_eq] at h
    rcases h with rfl | rfl <;> rfl
  · have : (k == 4) = false := by simpa using hk
    rw [this]; rfl
theorem leafr_first {r : Re} (h : LeafR r) : beginsB (leafTk r) = true := by
  obtain ⟨k, x, s, hn, hk⟩ := h
  obtain ⟨t, m, e, h1, h2⟩ := leaf_first hn hk 5
  obtain rfl : leafT k x s = t := by injection e
  exact h1.resolve_right (by rw [h2 (by omega)]; simp)
theorem mfirst_mp : ∀ (h : Nat) (r : Mp), OkMp h r → MFirst (mpT r)
  | 0, r, hr => by simp [OkMp] at hr
  | h + 1, .mk k r o ps mn mx, hr => by
    have hr' : MNode k r o ps.length mn mx ∧ ∀ p ∈ ps, OkMp h p := by simpa [OkMp] using hr
    obtain ⟨hn, hp⟩ := hr'
    have ih : ∀ p ∈ ps, ∀ q, MFirst (maskT p q) := fun p hpp q => by
      unfold maskT
      split
      · exact ⟨_, _, rfl, rfl, rfl⟩
      · exact mfirst_mp h p (hp p hpp)
    have hparts : ∀ sT q, 1 ≤ ps.length → MFirst (mpartsT sT q ps) := fun sT q hl => by
      rcases ps with _ | ⟨p, l⟩
      · simp at hl
      · rw [mpartsT]
        exact (ih p List.mem_cons_self q).app
    generalize hl : ps.length = n at hn
    rw [mpT]
    cases hn with
    | same r h => exact ⟨_, _, rfl, leafr_first h, begin_not_colon (leafr_first h)⟩
    | out r o h ho => exact ⟨_, _, rfl, leafr_first h, begin_not_colon (leafr_first h)⟩
    | cat n h => exact hparts [] 2 (by omega)
    | alt n h => exact hparts [sb 124] 1 (by omega)
    | rep a b h => exact (hparts [] 3 (by omega)).app
theorem mfirst_ask {h : Nat} {r : Mp} (hr : OkMp h r) (q : Nat) : MFirst (maskT r q) := by
  unfold maskT
  split
  · exact ⟨_, _, rfl, rfl, rfl⟩
  · exact mfirst_mp h r hr
theorem mpartsD_mem {asked : Nat} : ∀ {l : List Mp} {p : Mp}, p ∈ l → maskD p asked ≤ mpartsD asked l
  | q :: l, p, h => by
    rw [mpartsD]
    rcases List.mem_cons.1 h with rfl | h
    · exact Nat.le_max_left _ _
    · exact Nat.le_trans (mpartsD_mem h) (Nat.le_max_right _ _)
def MGood (T : List Tok) (r : Mp) (q : Nat) : Prop :=
  ∀ a dep n, dep + maskD r q ≤ 32 → 32 ≤ n + dep → TA T a (maskT r q) → a + (maskT r q).length ≤ T.length → MNx q (tokAt T (a + (maskT r q).length)) → Mq n T q a dep = .ok (r, a + (maskT r q).length)
theorem MNx.first {t : Tok} (h : beginsB t = true) : MNx 2 t :=
  ⟨begin_not_colon h, fun _ => ⟨(begin_not (.inl h)).1, (begin_not (.inl h)).2.1, (begin_not (.inl h)).2.2.1⟩, fun k => by omega, fun k => by omega⟩
theorem mcat_back {T : List Tok} {n dep : Nat} (hn : 32 ≤ n + dep) : ∀ (l acc : List Mp) (a f : Nat), l.length < f → (∀ p ∈ l, MGood T p 2 ∧ dep + maskD p 2 ≤ 32 ∧ MFirst (maskT p 2)) → TA T a (mtailT [] 2 l) → a + (mtailT [] 2 l).length ≤ T.length → MNx 1 (tokAt T (a + (mtailT [] 2 l).length)) →
    mCatLoop (mRepM (mAtomM (mAltM T n) T) T) T dep f acc a = .ok (mjoinM 3 (acc ++ l), a + (mtailT [] 2 l).length)
  | [], acc, a, 0, h, _, _, _, _ => absurd h (by simp)
  | [], acc, a, f + 1, _, _, _, _, hx => by
    rw [mtailT, List.length_nil, Nat.add_zero] at hx
    rw [mCatLoop, if_neg (by rw [hx.c (by omega)]; simp), List.append_nil, mtailT]
    rfl
  | p :: l, acc, a, 0, h, _, _, _, _ => absurd h (by simp)
  | p :: l, acc, a, f + 1, hf, hp, ht, hlen, hx => by
    obtain ⟨g1, g2, g3⟩ := hp p List.mem_cons_self
    have e : mtailT [] 2 (p :: l) = maskT p 2 ++ mtailT [] 2 l := by rw [mtailT]; rfl
    rw [e] at ht hlen hx ⊢
    rw [List.length_append] at hlen hx ⊢
    rw [← Nat.add_assoc] at hlen hx ⊢
    obtain ⟨t1, t2⟩ := TA.app.1 ht
    have hb : beginsB (tokAt T a) = true := by
      obtain ⟨t, m, e1, e2, _⟩ := g3
      rw [e1] at t1
      rw [t1.begins]; exact e2
    have hnx : MNx 2 (tokAt T (a + (maskT p 2).length)) := by
      rcases l with _ | ⟨p2, l⟩
      · rw [mtailT, List.length_nil, Nat.add_zero] at hx
        exact hx.mono (by omega)
      · have e2 : mtailT [] 2 (p2 :: l) = maskT p2 2 ++ mtailT [] 2 l := by rw [mtailT]; rfl
        rw [e2] at t2
        obtain ⟨t, m, e1, e3, _⟩ := (hp p2 (by simp)).2.2
        obtain ⟨t3, _⟩ := TA.app.1 t2
        rw [e1] at t3
        refine MNx.first ?_
        rw [t3.begins]
        exact e3
    have h1 : mRepM (mAtomM (mAltM T n) T) T a dep = .ok (p, a + (maskT p 2).length) := g1 a dep n g2 hn t1 (by omega) hnx
    rw [mCatLoop, if_pos hb, h1]
    simp only
    rw [mcat_back hn l (acc ++ [p]) (a + (maskT p 2).length) f (by simpa using hf) (fun q hq => hp q (List.mem_cons_of_mem _ hq)) t2 hlen hx]
    simp
theorem mrow_back {T : List Tok} {n dep : Nat} (hn : 32 ≤ n + dep) : ∀ (l acc : List Mp) (a f : Nat), l.length < f → (∀ p ∈ l, MGood T p 1 ∧ dep + maskD p 1 ≤ 32) → TA T a (mtailT [sb 124] 1 l) → a + (mtailT [sb 124] 1 l).length ≤ T.length → MNx 0 (tokAt T (a + (mtailT [sb 124] 1 l).length)) →
    mRowLoop (mCatM (mRepM (mAtomM (mAltM T n) T) T) T) T dep f acc a = .ok (mjoinM 4 (acc ++ l), a + (mtailT [sb 124] 1 l).length)
  | [], acc, a, 0, h, _, _, _, _ => absurd h (by simp)
  | [], acc, a, f + 1, _, _, _, _, hx => by
    rw [mtailT, List.length_nil, Nat.add_zero] at hx
    rw [mRowLoop, if_neg (by rw [hx.o rfl]; simp), List.append_nil, mtailT]
    rfl
  | p :: l, acc, a, 0, h, _, _, _, _ => absurd h (by simp)
  | p :: l, acc, a, f + 1, hf, hp, ht, hlen, hx => by
    obtain ⟨g1, g2⟩ := hp p List.mem_cons_self
    have e : mtailT [sb 124] 1 (p :: l) = sb 124 :: (maskT p 1 ++ mtailT [sb 124] 1 l) := by rw [mtailT]; rfl
    have el : a + (sb 124 :: (maskT p 1 ++ mtailT [sb 124] 1 l)).length = a + 1 + (maskT p 1).length + (mtailT [sb 124] 1 l).length := by simp; omega
    rw [e] at ht
    rw [e, el] at hlen hx ⊢
    have hb : isB (tokAt T a) [124] = true := by rw [ht.isB]; rfl
    obtain ⟨t1, t2⟩ := TA.app.1 ht.2
    have hnx : MNx 1 (tokAt T (a + 1 + (maskT p 1).length)) := by
      rcases l with _ | ⟨p2, l⟩
      · rw [mtailT, List.length_nil, Nat.add_zero] at hx
        exact hx.mono (by omega)
      · have e2 : mtailT [sb 124] 1 (p2 :: l) = sb 124 :: (maskT p2 1 ++ mtailT [sb 124] 1 l) := by rw [mtailT]; rfl
        rw [e2] at t2
        exact MNx.bar.same t2.1
    have h1 : mCatM (mRepM (mAtomM (mAltM T n) T) T) T (a + 1) dep = .ok (p, a + 1 + (maskT p 1).length) := g1 (a + 1) dep n g2 hn t1 (by omega) hnx
    rw [mRowLoop, if_pos hb, h1]
    simp only
    rw [mrow_back hn l (acc ++ [p]) (a + 1 + (maskT p 1).length) f (by simpa using hf) (fun q hq => hp q (List.mem_cons_of_mem _ hq)) t2 hlen hx]
    simp
theorem mjoined_two {kind : Int} {l : List Mp} (h : 2 ≤ l.length) : mjoinM kind l = .mk kind Re.zero [] l 0 0 := by
  rcases l with _ | ⟨p, _ | ⟨q, l⟩⟩
  · simp at h
  · simp at h
  · rfl
theorem mtail_len {sT : List Tok} {asked : Nat} : ∀ {l : List Mp}, (∀ p ∈ l, MFirst (maskT p asked)) → l.length ≤ (mtailT sT asked l).length
  | [], _ => by simp
  | p :: l, h => by
    have h1 := (h p List.mem_cons_self).pos
    have h2 := mtail_len (sT := sT) fun q hq => h q (List.mem_cons_of_mem _ hq)
    rw [mtailT]
    show _ ≤ (sT ++ (maskT p asked ++ mtailT sT asked l)).length
    simp only [List.length_append, List.length_cons]
    omega
theorem leafr_back {T : List Tok} {a : Nat} {r : Re} {l : List Tok} (h : LeafR r) (ht : TA T a (leafTk r :: l)) : isB (tokAt T a) [40] = false ∧ leafM notNone T a = .ok (r, a + 1) := by
  obtain ⟨k, x, s, hn, hk⟩ := h
  have ht1 : TA T a [leafT k x s] := ⟨ht.1, trivial⟩
  have h1 := leaf_back (T := T) (n := 0) (dep := 0) hn hk ht1
  have h2 : isB (tokAt T a) [40] = false := by
    rw [ht1.isB]
    unfold leafT
    split
    · rfl
    · split
      · split <;> rfl
      · rfl
  refine ⟨h2, ?_⟩
  unfold atomM at h1
  rw [if_neg (by rw [h2]; simp)] at h1
  exact h1
theorem good_mp (T : List Tok) : ∀ (h : Nat) (r : Mp), OkMp h r → ∀ q, q ≤ 3 → MGood T r q
  | 0, r, hr => by simp [OkMp] at hr
  | h + 1, .mk k r0 o ps mn mx, hr => by
    have hr' : MNode k r0 o ps.length mn mx ∧ ∀ p ∈ ps, OkMp h p := by simpa [OkMp] using hr
    obtain ⟨hn, hp⟩ := hr'
    have ih : ∀ p ∈ ps, ∀ q, q ≤ 3 → MGood T p q := fun p hpp => good_mp T h p (hp p hpp)
    have ihf : ∀ p ∈ ps, ∀ q, MFirst (maskT p q) := fun p hpp q => mfirst_ask (hp p hpp) q
    clear hr hp
    have own : ∀ a dep n, dep + mpD (.mk k r0 o ps mn mx) ≤ 32 → 32 ≤ n + dep → TA T a (mpT (.mk k r0 o ps mn mx)) → a + (mpT (.mk k r0 o ps mn mx)).length ≤ T.length → MNx (mlevK k) (tokAt T (a + (mpT (.mk k r0 o ps mn mx)).length)) →
        Mq n T (mlevK k) a dep = .ok (.mk k r0 o ps mn mx, a + (mpT (.mk k r0 o ps mn mx)).length) := by
      intro a dep n hd hnf ht hlen hx
      have hdp : ∀ p ∈ ps, dep + maskD p (mneedK k) ≤ 32 := fun p hpp => by
        have := mpartsD_mem (asked := mneedK k) hpp
        rw [mpD] at hd
        omega
      clear hd
      rw [mpT] at ht hlen hx ⊢
      generalize hl : ps.length = m at hn
      cases hn with
      | same r h =>
        obtain rfl := List.length_eq_zero_iff.1 hl
        obtain ⟨b1, b2⟩ := leafr_back h ht
        show mAtomM _ T a dep = .ok (_, a + 1)
        have hk : isB (tokAt T (a + 1)) [58] = false := hx.k
        unfold mAtomM
        rw [if_neg (by rw [b1]; simp), b2]
        simp only
        rw [if_neg (by rw [hk]; simp)]
      | out r o h ho =>
        obtain rfl := List.length_eq_zero_iff.1 hl
        obtain ⟨b1, b2⟩ := leafr_back h ht
        have t1 : TA T (a + 1) [sb 58, tT o] := ht.2
        have hk : isB (tokAt T (a + 1)) [58] = true := by rw [t1.isB]; rfl
        obtain ⟨c1, c2, _, _⟩ := base_parts t1.2.1
        have d1 : (tokAt T (a + 1 + 1)).kind = 2 := c1
        have d2 : (tokAt T (a + 1 + 1)).text = o := c2
        show mAtomM _ T a dep = .ok (_, a + 3)
        unfold mAtomM
        rw [if_neg (by rw [b1]; simp), b2]
        simp only
        rw [if_pos hk, if_neg (by rw [d1]; simp), d2]
      | cat n h =>
        have hdp3 : ∀ p ∈ ps, dep + maskD p 2 ≤ 32 := fun p hpp => hdp p hpp
        change TA T a (mpartsT [] 2 ps) at ht
        change a + (mpartsT [] 2 ps).length ≤ T.length at hlen
        change MNx 1 (tokAt T (a + (mpartsT [] 2 ps).length)) at hx
        show mCatM _ T a dep = .ok (_, a + (mpartsT [] 2 ps).length)
        rcases ps with _ | ⟨p, l⟩
        · simp at hl; omega
        · have e : mpartsT [] 2 (p :: l) = maskT p 2 ++ mtailT [] 2 l := by rw [mpartsT]; rfl
          rw [e] at ht hlen hx ⊢
          rw [List.length_append, ← Nat.add_assoc] at hlen hx ⊢
          obtain ⟨t1, t2⟩ := TA.app.1 ht
          have hnx : MNx 2 (tokAt T (a + (maskT p 2).length)) := by
            rcases l with _ | ⟨p2, l⟩
            · rw [mtailT, List.length_nil, Nat.add_zero] at hx
              exact hx.mono (by omega)
            · have e2 : mtailT [] 2 (p2 :: l) = maskT p2 2 ++ mtailT [] 2 l := by rw [mtailT]; rfl
              rw [e2] at t2
              obtain ⟨t, m, e1, e3, _⟩ := ihf p2 (by simp) 2
              obtain ⟨t3, _⟩ := TA.app.1 t2
              rw [e1] at t3
              refine MNx.first ?_
              rw [t3.begins]
              exact e3
          have h1 : mRepM (mAtomM (mAltM T _) T) T a dep = .ok (p, a + (maskT p 2).length) := ih p List.mem_cons_self 2 (by omega) a dep _ (hdp3 p List.mem_cons_self) hnf t1 (by omega) hnx
          unfold mCatM
          rw [h1]
          simp only
          have hll := mtail_len (sT := []) (asked := 2) (l := l) fun q hq => ihf q (List.mem_cons_of_mem _ hq) 2
          rw [mcat_back hnf l [p] _ (T.length + 1) (by omega) (fun q hq => ⟨ih q (List.mem_cons_of_mem _ hq) 2 (by omega), hdp3 q (List.mem_cons_of_mem _ hq), ihf q (List.mem_cons_of_mem _ hq) 2⟩) t2 hlen hx]
          rw [mjoined_two (by simp at hl ⊢; omega)]
          rfl
      | alt n h =>
        have hdp3 : ∀ p ∈ ps, dep + maskD p 1 ≤ 32 := fun p hpp => hdp p hpp
        change TA T a (mpartsT [sb 124] 1 ps) at ht
        change a + (mpartsT [sb 124] 1 ps).length ≤ T.length at hlen
        change MNx 0 (tokAt T (a + (mpartsT [sb 124] 1 ps).length)) at hx
        show mRowM _ T a dep = .ok (_, a + (mpartsT [sb 124] 1 ps).length)
        rcases ps with _ | ⟨p, l⟩
        · simp at hl; omega
        · have e : mpartsT [sb 124] 1 (p :: l) = maskT p 1 ++ mtailT [sb 124] 1 l := by rw [mpartsT]; rfl
          rw [e] at ht hlen hx ⊢
          rw [List.length_append, ← Nat.add_assoc] at hlen hx ⊢
          obtain ⟨t1, t2⟩ := TA.app.1 ht
          have hnx : MNx 1 (tokAt T (a + (maskT p 1).length)) := by
            rcases l with _ | ⟨p2, l⟩
            · rw [mtailT, List.length_nil, Nat.add_zero] at hx
              exact hx.mono (by omega)
            · have e2 : mtailT [sb 124] 1 (p2 :: l) = sb 124 :: (maskT p2 1 ++ mtailT [sb 124] 1 l) := by rw [mtailT]; rfl
              rw [e2] at t2
              exact MNx.bar.same t2.1
          have h1 : mCatM (mRepM (mAtomM (mAltM T _) T) T) T a dep = .ok (p, a + (maskT p 1).length) := ih p List.mem_cons_self 1 (by omega) a dep _ (hdp3 p List.mem_cons_self) hnf t1 (by omega) hnx
          unfold mRowM
          rw [h1]
          simp only
          have hll := mtail_len (sT := [sb 124]) (asked := 1) (l := l) fun q hq => ihf q (List.mem_cons_of_mem _ hq) 1
          rw [mrow_back hnf l [p] _ (T.length + 1) (by omega) (fun q hq => ⟨ih q (List.mem_cons_of_mem _ hq) 1 (by omega), hdp3 q (List.mem_cons_of_mem _ hq)⟩) t2 hlen hx]
          rw [mjoined_two (by simp at hl ⊢; omega)]
          rfl
      | rep lo hi h =>
        obtain ⟨p, rfl⟩ := mone_of hl
        have hd5 : dep + maskD p 3 ≤ 32 := hdp p List.mem_cons_self
        simp only [if_true, mpartsT_one] at ht hlen hx ⊢
        rw [List.length_append, ← Nat.add_assoc] at hlen hx ⊢
        obtain ⟨t1, t2⟩ := TA.app.1 ht
        have key : ∀ c, (c = 42 ∨ c = 43 ∨ c = 63) → oftT mn mx = [sb c] → (oftenM T (a + (maskT p 3).length)) = ⟨mn, mx, true, a + (maskT p 3).length + 1⟩ → mRepM (mAtomM (mAltM T n) T) T a dep = .ok (.mk 5 Re.zero [] [p] mn mx, a + (maskT p 3).length + (oftT mn mx).length) := fun c hc he ho => by
          rw [he] at t2
          have h1 : mAtomM (mAltM T n) T a dep = .ok (p, a + (maskT p 3).length) := ih p List.mem_cons_self 3 (by omega) a dep _ hd5 hnf t1 (by omega) ((MNx.star hc (by omega)).same t2.1)
          unfold mRepM
          rw [h1]
          simp only [ho, he]
          rfl
        rcases h with ⟨rfl, rfl⟩ | ⟨rfl, rfl⟩ | ⟨rfl, rfl⟩
        · have t2' : TA T (a + (maskT p 3).length) [sb 42] := t2
          refine key 42 (.inl rfl) rfl ?_
          unfold oftenM
          simp only [show isB (tokAt T (a + (maskT p 3).length)) [42] = true by rw [t2'.isB]; rfl, if_true]
        · have t2' : TA T (a + (maskT p 3).length) [sb 43] := t2
          refine key 43 (.inr (.inl rfl)) rfl ?_
          unfold oftenM
          simp only [show isB (tokAt T (a + (maskT p 3).length)) [42] = false by rw [t2'.isB]; rfl, show isB (tokAt T (a + (maskT p 3).length)) [43] = true by rw [t2'.isB]; rfl, if_true, Bool.false_eq_true, if_false]
        · have t2' : TA T (a + (maskT p 3).length) [sb 63] := t2
          refine key 63 (.inr (.inr rfl)) rfl ?_
          unfold oftenM
          simp only [show isB (tokAt T (a + (maskT p 3).length)) [42] = false by rw [t2'.isB]; rfl, show isB (tokAt T (a + (maskT p 3).length)) [43] = false by rw [t2'.isB]; rfl, show isB (tokAt T (a + (maskT p 3).length)) [63] = true by rw [t2'.isB]; rfl, if_true, Bool.false_eq_true, if_false]
    intro q hq a dep n hd hnf ht hlen hx
    have hlv : mlev (.mk k r0 o ps mn mx) = mlevK k := rfl
    have hl5 : mlevK k ≤ 3 := mlev_le (.mk k r0 o ps mn mx)
    by_cases hlt : mlevK k < q
    · have e1 : maskT (.mk k r0 o ps mn mx) q = sb 40 :: (mpT (.mk k r0 o ps mn mx) ++ [sb 41]) := by unfold maskT; rw [hlv, if_pos hlt]
      have e2 : maskD (.mk k r0 o ps mn mx) q = mpD (.mk k r0 o ps mn mx) + 1 := by unfold maskD; rw [hlv, if_pos hlt]
      rw [e2] at hd
      rw [e1] at ht
      have el : a + (maskT (.mk k r0 o ps mn mx) q).length = a + 1 + (mpT (.mk k r0 o ps mn mx)).length + 1 := by rw [e1]; simp; omega
      rw [el] at hlen hx ⊢
      generalize hrr : Mp.mk k r0 o ps mn mx = r at *
      obtain ⟨t1, t2⟩ := TA.app.1 ht.2
      obtain ⟨n, rfl⟩ : ∃ g, n = g + 1 := ⟨n - 1, by omega⟩
      have h0 : mAltM T (n + 1) (a + 1) (dep + 1) = .ok (r, a + 1 + (mpT r).length) := by
        rw [Mq_alt]
        refine mdown (mlevK k) 0 (by omega) ?_ (MNx.shut.same t2.1)
        exact own (a + 1) (dep + 1) n (by omega) (by omega) t1 (by omega) ((MNx.shut.same t2.1).mono (by omega))
      have h5 : Mq (n + 1) T 3 a dep = .ok (r, a + 1 + (mpT r).length + 1) := by
        show mAtomM (mAltM T (n + 1)) T a dep = _
        unfold mAtomM
        rw [if_pos (by rw [ht.isB]; rfl), if_neg (by omega), h0]
        simp only
        rw [if_pos (by rw [t2.isB]; rfl)]
      exact mdown (3 - q) q (by omega) (by rw [show 3 - q + q = 3 by omega]; exact h5) hx
    · have e1 : maskT (.mk k r0 o ps mn mx) q = mpT (.mk k r0 o ps mn mx) := by unfold maskT; rw [hlv, if_neg hlt]
      have e2 : maskD (.mk k r0 o ps mn mx) q = mpD (.mk k r0 o ps mn mx) := by unfold maskD; rw [hlv, if_neg hlt]; rfl
      rw [e2] at hd
      rw [e1] at ht hlen hx ⊢
      refine mdown (mlevK k - q) q (by omega) ?_ hx
      rw [show mlevK k - q + q = mlevK k by omega]
      exact own a dep n hd hnf ht hlen (hx.mono (by omega))
end Go.Proofs.YtfljcfdfgojdoaaGreatDoor.Sh
