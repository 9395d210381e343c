/-
  What the lexer and the parser make of brackets and of signs that say not: deeper than 32 is a fault at place 32, else none; no program in sight.
-/
import Derived.Test.YtfljcfdfgojdoaaGreatDoorAa09
/- ParseDeep: what the lexer and the parser make of a row of brackets and of signs that say not; no program in sight. -/
namespace Go.Proofs.YtfljcfdfgojdoaaGreatDoor
open Go.Lib

def sg (c : B) (p : Nat) : Tok := ⟨4, [c], Se.none, 0, p⟩
def aSet : Se := ⟨0, 8589934592, 0, 0⟩
theorem nextL_of {k : Nat} {r : List B} {t : Tok} {n : Nat} {c : B} (h1 : white false (c :: r) = c :: r) (h2 : tokenL (c :: r) = .ok (t, n)) : nextL k (c :: r) = ⟨{ t with pos := k }, k + n, 0⟩ := by
  unfold nextL
  rw [h1, Nat.sub_self, Nat.add_zero]
  simp only [nextAt, h2]
theorem nextL_open (k : Nat) (r : List B) : nextL k (40 :: r) = ⟨sg 40 k, k + 1, 0⟩ := nextL_of (t := ⟨4, [40], Se.none, 0, 0⟩) rfl rfl
theorem nextL_not (k : Nat) (r : List B) : nextL k (33 :: r) = ⟨sg 33 k, k + 1, 0⟩ := nextL_of (t := ⟨4, [33], Se.none, 0, 0⟩) rfl rfl
theorem nextL_shut (k : Nat) (r : List B) : nextL k (41 :: r) = ⟨sg 41 k, k + 1, 0⟩ := nextL_of (t := ⟨4, [41], Se.none, 0, 0⟩) rfl rfl
theorem nextL_stop (k : Nat) : nextL k [] = ⟨⟨0, [], Se.none, 0, k⟩, k, 0⟩ := rfl
theorem setL_a (r : List B) (f : Nat) : setL (f + 2) Se.none (97 :: 93 :: r) = .ok (aSet, r) := by kernel_rfl
theorem nextL_set (k : Nat) (r : List B) : nextL k (91 :: 97 :: 93 :: r) = ⟨⟨3, [], aSet, 0, k⟩, k + 3, 0⟩ := nextL_of (t := ⟨3, [], aSet, 0, 0⟩) rfl (by
  have h : tokenL (91 :: 97 :: 93 :: r) = bump (setFin (r.length + 1 + 1) false (setL (r.length + 1 + 2) Se.none (97 :: 93 :: r))) := rfl
  rw [h, setL_a]
  simp [setFin, bump]; omega)
theorem sfx_next {s : ByteArray} {k : Nat} {c : B} {r : List B} (h : sfx s k = c :: r) : sfx s (k + 1) = r := by
  unfold sfx at h ⊢
  rw [← List.drop_drop, h]; rfl
theorem sfx_more {s : ByteArray} {k : Nat} {l r : List B} (h : sfx s k = l ++ r) : sfx s (k + l.length) = r := by
  unfold sfx at h ⊢
  rw [← List.drop_drop, h]; simp
/-- the tokens of one sign, so many times -/
def sgs (c : B) (k : Nat) : Nat → List Tok
  | 0 => []
  | n + 1 => sg c k :: sgs c (k + 1) n
theorem sgs_len (c : B) : ∀ (n k : Nat), (sgs c k n).length = n
  | 0, _ => rfl
  | n + 1, k => by simp [sgs, sgs_len c n]
theorem sgs_at (c : B) : ∀ (n k i : Nat), i < n → (sgs c k n)[i]? = some (sg c (k + i))
  | n + 1, k, 0, _ => rfl
  | n + 1, k, i + 1, h => by
    simp only [sgs, List.getElem?_cons_succ]
    rw [sgs_at c n (k + 1) i (by omega)]
    congr 2; omega
theorem allL_step {f : Nat} {s : ByteArray} {k n : Nat} {acc : List Tok} {t : Tok} (h : nextL k (sfx s k) = ⟨t, n, 0⟩) (hk : t.kind ≠ 0) : allL (f + 1) s k acc = allL f s n (acc ++ [t]) := by
  rw [allL]
  simp only [h]
  have hk' : (t.kind == 0) = false := by simpa using hk
  simp [hk']
theorem allL_signs {c : B} (hc : ∀ k r, nextL k (c :: r) = ⟨sg c k, k + 1, 0⟩) (s : ByteArray) : ∀ (n f k : Nat) (acc : List Tok) (r : List B), sfx s k = List.replicate n c ++ r → allL (f + n) s k acc = allL f s (k + n) (acc ++ sgs c k n)
  | 0, f, k, acc, r, _ => by simp [sgs]
  | n + 1, f, k, acc, r, h => by
    have h' : sfx s k = c :: (List.replicate n c ++ r) := by rw [h]; rfl
    rw [show f + (n + 1) = (f + n) + 1 from rfl, allL_step (t := sg c k) (n := k + 1) (by rw [h']; exact hc _ _) (by simp [sg])]
    rw [allL_signs hc s n f (k + 1) _ r (sfx_next h')]
    rw [show k + 1 + n = k + (n + 1) by omega]
    simp [sgs]
/-- the text: so many brackets, so many signs, a set, so many brackets -/
def deepT (b n : Nat) : List B := List.replicate b 40 ++ (List.replicate n 33 ++ (91 :: 97 :: 93 :: List.replicate b 41))
def deepS (b n : Nat) : ByteArray := ⟨(deepT b n).toArray⟩
def deepK (b n : Nat) : List Tok := sgs 40 0 b ++ sgs 33 b n ++ [⟨3, [], aSet, 0, ((b + n : Nat) : Int)⟩] ++ sgs 41 (b + n + 3) b
theorem deepS_size (b n : Nat) : (deepS b n).size = 2 * b + n + 3 := by
  show (deepT b n).toArray.size = _
  simp [deepT]; omega
theorem deep_lex (b n : Nat) (h : 2 * b + n + 3 ≤ 65536) : allT (deepS b n) = .ok (deepK b n) := by
  unfold allT
  rw [deepS_size, if_neg (by omega)]
  have s0 : sfx (deepS b n) 0 = List.replicate b 40 ++ (List.replicate n 33 ++ (91 :: 97 :: 93 :: List.replicate b 41)) := by simp [sfx, deepS, deepT]
  have s1 := sfx_more s0
  have s2 := sfx_more s1
  have s3 := sfx_more (l := [91, 97, 93]) s2
  simp only [List.length_replicate, Nat.zero_add, List.length_cons, List.length_nil] at s1 s2 s3
  rw [show 2 * b + n + 3 + 1 = (b + 4 + n) + b by omega, allL_signs nextL_open _ b _ 0 [] _ s0]
  rw [allL_signs nextL_not _ n _ (0 + b) _ _ (by rw [Nat.zero_add]; exact s1)]
  rw [Nat.zero_add]
  rw [show b + 4 = (3 + b) + 1 by omega, allL_step (t := ⟨3, [], aSet, 0, ((b + n : Nat) : Int)⟩) (n := b + n + 3) (by rw [s2]; exact nextL_set _ _) (by simp)]
  rw [allL_signs nextL_shut _ b 3 (b + n + 3) _ [] (by rw [s3]; simp)]
  have s4 : sfx (deepS b n) (b + n + 3 + b) = [] := by
    have := sfx_more (l := List.replicate b 41) (r := []) (by rw [s3]; simp : sfx (deepS b n) (b + n + 3) = _)
    simpa using this
  rw [allL]
  simp only [s4, nextL_stop]
  simp [deepK]

/-- the tokens of the text, by their places -/
structure DeepT (T : List Tok) (b n : Nat) : Prop where
  opn : ∀ i, i < b → tokAt T i = sg 40 i
  nts : ∀ i, b ≤ i → i < b + n → tokAt T i = sg 33 i
  set : tokAt T (b + n) = ⟨3, [], aSet, 0, ((b + n : Nat) : Int)⟩
  sht : ∀ i, b + n < i → i ≤ 2 * b + n → tokAt T i = sg 41 (i + 2)
  fin : (tokAt T (2 * b + n + 1)).kind = 0 ∧ (tokAt T (2 * b + n + 1)).text = []
theorem tokAt_of {T : List Tok} {i : Nat} {t : Tok} (h : T[i]? = some t) : tokAt T i = t := by
  unfold tokAt; simp [List.getD, h]
theorem deep_toks (b n : Nat) : DeepT (toksOf (deepS b n) (deepK b n)) b n := by
  have l1 := sgs_len 40 b 0
  have l2 := sgs_len 33 n b
  have l3 := sgs_len 41 b (b + n + 3)
  refine ⟨fun i hi => tokAt_of ?_, fun i h1 h2 => tokAt_of ?_, tokAt_of ?_, fun i h1 h2 => tokAt_of ?_, ?_⟩
  · unfold toksOf deepK
    rw [List.getElem?_append_left (by simp [l1, l2, l3]; omega), List.getElem?_append_left (by simp [l1, l2]; omega), List.getElem?_append_left (by simp [l1, l2]; omega), List.getElem?_append_left (by simp [l1]; omega), sgs_at _ _ _ _ hi]
    simp
  · unfold toksOf deepK
    rw [List.getElem?_append_left (by simp [l1, l2, l3]; omega), List.getElem?_append_left (by simp [l1, l2]; omega), List.getElem?_append_left (by simp [l1, l2]; omega), List.getElem?_append_right (by simp [l1]; omega), l1, sgs_at _ _ _ _ (by omega)]
    congr 2; omega
  · unfold toksOf deepK
    rw [List.getElem?_append_left (by simp [l1, l2, l3]; try omega), List.getElem?_append_left (by simp [l1, l2]), List.getElem?_append_right (by simp [l1, l2])]
    simp [l1, l2]
  · unfold toksOf deepK
    rw [List.getElem?_append_left (by simp [l1, l2, l3]; omega), List.getElem?_append_right (by simp [l1, l2]; omega)]
    simp only [List.length_append, l1, l2, List.length_cons, List.length_nil]
    rw [sgs_at _ _ _ _ (by omega)]
    congr 2; omega
  · have : (toksOf (deepS b n) (deepK b n))[2 * b + n + 1]? = some (endTok (deepS b n)) := by
      unfold toksOf deepK
      rw [List.getElem?_append_right (by simp [l1, l2, l3]; omega)]
      simp only [List.length_append, l1, l2, l3, List.length_cons, List.length_nil]
      rw [show 2 * b + n + 1 - (b + n + (0 + 1) + b) = 0 by omega]
      rfl
    rw [tokAt_of this]
    exact ⟨rfl, rfl⟩

theorem isB_sg (c d : B) (p : Nat) : isB (sg c p) [d] = (c == d) := by simp [isB, sg]
/-- a token at which an expression has ended -/
structure Ends (t : Tok) : Prop where
  s : ∀ d : B, d ≠ 41 → isB t [d] = false
  b : beginsB t = false
theorem Ends.shut (p : Nat) : Ends (sg 41 p) := ⟨fun d h => by rw [isB_sg]; exact beq_eq_false_iff_ne.2 (Ne.symm h), rfl⟩
theorem Ends.fin {t : Tok} (h : t.kind = 0) : Ends t := ⟨fun d _ => by simp [isB, h], by simp [beginsB, isB, h]⟩
theorem rowM_ok {kind : Int} {c : B} {part : Nat → Nat → R} {T : List Tok} {a dep a1 : Nat} {r : Re} (h : part a dep = .ok (r, a1)) (he : isB (tokAt T a1) [c] = false) : rowM kind [c] part T a dep = .ok (r, a1) := by
  unfold rowM
  simp only [h, rowLoop, he, joinedM]
  simp
theorem rowM_err {kind : Int} {s : List B} {part : Nat → Nat → R} {T : List Tok} {a dep : Nat} {e : Int × Int} (h : part a dep = .error e) : rowM kind s part T a dep = .error e := by
  unfold rowM; simp only [h]
theorem catM_ok {part : Nat → Nat → R} {T : List Tok} {a dep a1 : Nat} {r : Re} (h : part a dep = .ok (r, a1)) (he : Ends (tokAt T a1)) : catM part T a dep = .ok (r, a1) := by
  unfold catM
  simp only [h, catLoop, he.s 33 (by decide), he.b, joinedM]
  simp
theorem catM_err {part : Nat → Nat → R} {T : List Tok} {a dep : Nat} {e : Int × Int} (h : part a dep = .error e) : catM part T a dep = .error e := by
  unfold catM; simp only [h]
theorem repM_ok {atom : Nat → Nat → R} {T : List Tok} {a dep a1 : Nat} {r : Re} (h : atom a dep = .ok (r, a1)) (he : Ends (tokAt T a1)) : repM atom T a dep = .ok (r, a1) := by
  unfold repM
  simp only [h, oftenM, he.s 42 (by decide), he.s 43 (by decide), he.s 63 (by decide), he.s 123 (by decide)]
  simp
theorem repM_err {atom : Nat → Nat → R} {T : List Tok} {a dep : Nat} {e : Int × Int} (h : atom a dep = .error e) : repM atom T a dep = .error e := by
  unfold repM; simp only [h]
/-- an expression of one part -/
theorem altM_ok {N : Se} {T : List Tok} {f a dep a1 : Nat} {r : Re} (h : notM (repM (atomM N (altM N T f) T) T) T 40 a dep = .ok (r, a1)) (he : Ends (tokAt T a1)) : altM N T (f + 1) a dep = .ok (r, a1) := by
  unfold altM
  exact rowM_ok (rowM_ok (catM_ok h he) (he.s 38 (by decide))) (he.s 124 (by decide))
theorem altM_err {N : Se} {T : List Tok} {f a dep : Nat} {e : Int × Int} (h : notM (repM (atomM N (altM N T f) T) T) T 40 a dep = .error e) : altM N T (f + 1) a dep = .error e := by
  unfold altM
  exact rowM_err (rowM_err (catM_err h))

theorem notM_rep {rep : Nat → Nat → R} {T : List Tok} {f a dep : Nat} (h : isB (tokAt T a) [33] = false) : notM rep T (f + 1) a dep = rep a dep := by
  rw [notM, if_neg (by rw [h]; decide)]
theorem notM_deep {rep : Nat → Nat → R} {T : List Tok} {f a : Nat} (h : isB (tokAt T a) [33] = true) : notM rep T (f + 1) a 32 = .error ((tokAt T a).pos, 8) := by
  rw [notM, if_pos h, if_pos rfl]
theorem notM_ok {rep : Nat → Nat → R} {T : List Tok} {f a dep a1 : Nat} {r : Re} (h : isB (tokAt T a) [33] = true) (hd : dep ≠ 32) (h1 : notM rep T f (a + 1) (dep + 1) = .ok (r, a1)) : notM rep T (f + 1) a dep = .ok (.mk 7 [] Se.none [r] 0 0, a1) := by
  rw [notM, if_pos h, if_neg hd]; simp only [h1]
theorem notM_err {rep : Nat → Nat → R} {T : List Tok} {f a dep : Nat} {e : Int × Int} (h : isB (tokAt T a) [33] = true) (hd : dep ≠ 32) (h1 : notM rep T f (a + 1) (dep + 1) = .error e) : notM rep T (f + 1) a dep = .error e := by
  rw [notM, if_pos h, if_neg hd]; simp only [h1]
theorem alt_open_ok {N : Se} {T : List Tok} {F i e : Nat} {r : Re} (ht : tokAt T i = sg 40 i) (hi : i ≠ 32) (h : altM N T F (i + 1) (i + 1) = .ok (r, e)) (hs : tokAt T e = sg 41 (e + 2)) (he : Ends (tokAt T (e + 1))) : altM N T (F + 1) i i = .ok (r, e + 1) := by
  refine altM_ok ?_ he
  rw [notM_rep (by rw [ht, isB_sg]; decide)]
  refine repM_ok ?_ he
  unfold atomM
  rw [ht, isB_sg, if_pos (by decide), if_neg hi]
  simp only [h]
  rw [hs, isB_sg, if_pos (by decide)]
theorem alt_open_err {N : Se} {T : List Tok} {F i : Nat} {e : Int × Int} (ht : tokAt T i = sg 40 i) (hi : i ≠ 32) (h : altM N T F (i + 1) (i + 1) = .error e) : altM N T (F + 1) i i = .error e := by
  refine altM_err ?_
  rw [notM_rep (by rw [ht, isB_sg]; decide)]
  refine repM_err ?_
  unfold atomM
  rw [ht, isB_sg, if_pos (by decide), if_neg hi]
  simp only [h]
theorem alt_open_deep {N : Se} {T : List Tok} {F : Nat} (ht : tokAt T 32 = sg 40 32) : altM N T (F + 1) 32 32 = .error (32, 8) := by
  refine altM_err ?_
  rw [notM_rep (by rw [ht, isB_sg]; decide)]
  refine repM_err ?_
  unfold atomM
  rw [ht, isB_sg, if_pos (by decide), if_pos rfl]
  rfl
def notsR : Nat → Re
  | 0 => .mk 2 [] aSet [] 0 0
  | m + 1 => .mk 7 [] Se.none [notsR m] 0 0
theorem DeepT.ends {T : List Tok} {b n : Nat} (h : DeepT T b n) {i : Nat} (h1 : b + n < i) (h2 : i ≤ 2 * b + n + 1) : Ends (tokAt T i) := by
  by_cases hi : i = 2 * b + n + 1
  · subst hi; exact .fin h.fin.1
  · rw [h.sht i h1 (by omega)]; exact .shut _
theorem deep_nots {N : Se} {T : List Tok} {b n : Nat} (h : DeepT T b n) (hle : b + n ≤ 32) (alt : Nat → Nat → R) : ∀ m, m ≤ n → ∀ f, m + 1 ≤ f → notM (repM (atomM N alt T) T) T f (b + n - m) (b + n - m) = .ok (notsR m, b + n + 1)
  | 0, _, f, hf => by
    obtain ⟨f, rfl⟩ : ∃ f', f = f' + 1 := ⟨f - 1, by omega⟩
    rw [Nat.sub_zero, notM_rep (by rw [h.set]; rfl)]
    refine repM_ok ?_ (h.ends (by omega) (by omega))
    unfold atomM leafM
    rw [h.set]
    rfl
  | m + 1, hm, f, hf => by
    obtain ⟨f, rfl⟩ : ∃ f', f = f' + 1 := ⟨f - 1, by omega⟩
    have ih := deep_nots (N := N) h hle alt m (by omega) f (by omega)
    refine notM_ok (by rw [h.nts _ (by omega) (by omega), isB_sg]; decide) (by omega) ?_
    rw [show b + n - (m + 1) + 1 = b + n - m by omega]
    exact ih
theorem deep_ok {N : Se} {T : List Tok} {b n : Nat} (h : DeepT T b n) (hle : b + n ≤ 32) : ∀ m, m ≤ b → ∀ F, m + 1 ≤ F → altM N T F (b - m) (b - m) = .ok (notsR n, b + n + 1 + m)
  | 0, _, F, hF => by
    obtain ⟨F, rfl⟩ : ∃ f', F = f' + 1 := ⟨F - 1, by omega⟩
    have h1 := deep_nots (N := N) h hle (altM N T F) n (Nat.le_refl _) 40 (by omega)
    rw [show b + n - n = b by omega] at h1
    exact altM_ok h1 (h.ends (by omega) (by omega))
  | m + 1, hm, F, hF => by
    obtain ⟨F, rfl⟩ : ∃ f', F = f' + 1 := ⟨F - 1, by omega⟩
    have ih := deep_ok (N := N) h hle m (by omega) F (by omega)
    rw [show b - m = b - (m + 1) + 1 by omega] at ih
    have hs := h.sht (b + n + 1 + m) (by omega) (by omega)
    have he := h.ends (i := b + n + 1 + m + 1) (by omega) (by omega)
    exact alt_open_ok (h.opn _ (by omega)) (by omega) ih hs he
theorem deep_nots_err {N : Se} {T : List Tok} {b n : Nat} (h : DeepT T b n) (hb : b ≤ 32) (hle : 32 < b + n) (alt : Nat → Nat → R) : ∀ m, m ≤ 32 - b → ∀ f, m + 1 ≤ f → notM (repM (atomM N alt T) T) T f (32 - m) (32 - m) = .error (32, 8)
  | 0, _, f, hf => by
    obtain ⟨f, rfl⟩ : ∃ f', f = f' + 1 := ⟨f - 1, by omega⟩
    rw [Nat.sub_zero, notM_deep (by rw [h.nts _ (by omega) (by omega), isB_sg]; decide), h.nts _ (by omega) (by omega)]
    rfl
  | m + 1, hm, f, hf => by
    obtain ⟨f, rfl⟩ : ∃ f', f = f' + 1 := ⟨f - 1, by omega⟩
    have ih := deep_nots_err (N := N) h hb hle alt m (by omega) f (by omega)
    refine notM_err (by rw [h.nts _ (by omega) (by omega), isB_sg]; decide) (by omega) ?_
    rw [show 32 - (m + 1) + 1 = 32 - m by omega]
    exact ih
theorem deep_err_open {N : Se} {T : List Tok} {b n c : Nat} (h : DeepT T b n) (hc : c ≤ b) (hc32 : c ≤ 32) (h0 : ∀ F, altM N T (F + 1) c c = .error (32, 8)) : ∀ m, m ≤ c → ∀ F, m + 1 ≤ F → altM N T F (c - m) (c - m) = .error (32, 8)
  | 0, _, F, hF => by
    obtain ⟨F, rfl⟩ : ∃ f', F = f' + 1 := ⟨F - 1, by omega⟩
    exact h0 F
  | m + 1, hm, F, hF => by
    obtain ⟨F, rfl⟩ : ∃ f', F = f' + 1 := ⟨F - 1, by omega⟩
    have ih := deep_err_open (N := N) h hc hc32 h0 m (by omega) F (by omega)
    rw [show c - m = c - (m + 1) + 1 by omega] at ih
    exact alt_open_err (h.opn _ (by omega)) (by omega) ih
theorem deep_err {N : Se} {T : List Tok} {b n : Nat} (h : DeepT T b n) (hle : 32 < b + n) : altM N T 33 0 0 = .error (32, 8) := by
  by_cases hb : b ≤ 32
  · have := deep_err_open (N := N) (c := b) h (Nat.le_refl _) hb (fun F => altM_err (by
      have := deep_nots_err (N := N) h hb hle (altM N T F) (32 - b) (Nat.le_refl _) 40 (by omega)
      rw [show 32 - (32 - b) = b by omega] at this
      exact this)) b (Nat.le_refl _) 33 (by omega)
    simpa using this
  · have := deep_err_open (N := N) (c := 32) h (by omega) (Nat.le_refl _) (fun F => alt_open_deep (h.opn _ (by omega))) 32 (Nat.le_refl _) 33 (by omega)
    simpa using this
theorem deep_parse_ok (b n : Nat) (hle : b + n ≤ 32) : parseRe (deepS b n) = .ok (notsR n) := by
  have h := deep_toks b n
  have h1 := deep_ok (N := notNone) h hle b (Nat.le_refl _) 33 (by omega)
  unfold parseRe
  rw [deep_lex b n (by omega)]
  show closeM _ _ = _
  rw [Nat.sub_self] at h1
  refine closeM_ok _ h1 ?_
  rw [show b + n + 1 + b = 2 * b + n + 1 by omega, h.fin.1]
  rfl
theorem deep_parse_err (b n : Nat) (hle : 32 < b + n) (hb : b ≤ 100) (hn : n ≤ 100) : parseRe (deepS b n) = .error (32, 8) := by
  unfold parseRe
  rw [deep_lex b n (by omega)]
  show closeM _ _ = _
  exact closeM_bad _ (deep_err (deep_toks b n) hle)
end Go.Proofs.YtfljcfdfgojdoaaGreatDoor
