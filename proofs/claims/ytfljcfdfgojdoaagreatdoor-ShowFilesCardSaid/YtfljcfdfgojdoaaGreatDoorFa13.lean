/-
  Plain: a byte, a text, a set that are written are lexed as they were.
  mayBeName and mayBeOften return true where the plain conditions hold.
  right returns true at an expression in memory whose every part may stand.
-/
import Derived.Test.YtfljcfdfgojdoaaGreatDoorFa12
import Derived.Test.YtfljcfdfgojdoaaGreatDoorFa07
namespace Go.Proofs.YtfljcfdfgojdoaaGreatDoor.Sh
open Go.RowKit Go.Lib Go.Proofs.YtfljcfdfgojdoaaGreatDoor

-- one byte
def escT (n : Nat) : Bool :=
  match oneL (escB (UInt8.ofNat n)) with
  | .ok (b, m) => b == UInt8.ofNat n && m == (escB (UInt8.ofNat n)).length && (match escB (UInt8.ofNat n) with | [] => false | d :: _ => !(d == 34) && !(d == 93) && !(d == 45) && !(d == 94))
  | .error _ => false
theorem esc_all : (List.range 256).all escT = true := by kernel_rfl
theorem esc_of (c : B) : escT c.toNat = true := List.all_eq_true.1 esc_all _ (List.mem_range.2 c.toNat_lt)
theorem esc_one (c : B) : oneL (escB c) = .ok (c, (escB c).length) := by
  have h := esc_of c
  unfold escT at h
  rw [UInt8.ofNat_toNat] at h
  rcases hx : oneL (escB c) with e | ⟨b, m⟩
  · rw [hx] at h; simp at h
  · rw [hx] at h
    simp only [Bool.and_eq_true, beq_iff_eq] at h
    obtain ⟨⟨h1, h2⟩, _⟩ := h
    rw [h1, h2]
theorem esc_head (c : B) : ∃ d r, escB c = d :: r ∧ d ≠ 34 ∧ d ≠ 93 ∧ d ≠ 45 ∧ d ≠ 94 := by
  have h := esc_of c
  unfold escT at h
  rw [UInt8.ofNat_toNat, esc_one] at h
  simp only [Bool.and_eq_true] at h
  obtain ⟨_, h⟩ := h
  rcases hx : escB c with _ | ⟨d, r⟩
  · rw [hx] at h; simp at h
  · rw [hx] at h
    simp only [Bool.and_eq_true, Bool.not_eq_true', beq_eq_false_iff_ne] at h
    exact ⟨d, r, rfl, h.1.1.1, h.1.1.2, h.1.2, h.2⟩
theorem esc_app (c : B) (z : List B) : oneL (escB c ++ z) = .ok (c, (escB c).length) := oneL_app (esc_one c)
theorem esc_pos (c : B) : 1 ≤ (escB c).length := by
  obtain ⟨d, r, h, _⟩ := esc_head c
  rw [h]; simp
theorem eq34 {a : B} (h : a ≠ 34) : ((a.toNat : Int) != 34) = true := by
  have : a.toNat ≠ 34 := fun e => h (UInt8.toNat_inj.1 e)
  unfold bne; rw [show ((a.toNat : Int) == 34) = false by rw [beq_eq_false_iff_ne]; omega]; rfl
theorem eq93 {a : B} (h : a ≠ 93) : ((a.toNat : Int) != 93) = true := by
  have : a.toNat ≠ 93 := fun e => h (UInt8.toNat_inj.1 e)
  unfold bne; rw [show ((a.toNat : Int) == 93) = false by rw [beq_eq_false_iff_ne]; omega]; rfl
theorem eq45 {a : B} (h : a ≠ 45) : ((a.toNat : Int) == 45) = false := by
  have : a.toNat ≠ 45 := fun e => h (UInt8.toNat_inj.1 e)
  rw [beq_eq_false_iff_ne]; omega
theorem eq94 {a : B} (h : a ≠ 94) : ((a.toNat : Int) == 94) = false := by
  have : a.toNat ≠ 94 := fun e => h (UInt8.toNat_inj.1 e)
  rw [beq_eq_false_iff_ne]; omega
-- a text
theorem quo_back : ∀ (l acc z : List B) (f : Nat), l.length < f → quoL f acc (l.flatMap escB ++ 34 :: z) = .ok (acc ++ l, z)
  | [], acc, z, 0, h => absurd h (by simp)
  | [], acc, z, f + 1, _ => by
    rw [List.flatMap_nil, List.nil_append, quoL, if_pos (by decide), List.append_nil]
  | c :: l, acc, z, 0, h => absurd h (by simp)
  | c :: l, acc, z, f + 1, h => by
    obtain ⟨d, r, hd, h34, _⟩ := esc_head c
    have h1 := esc_app c (l.flatMap escB ++ 34 :: z)
    rw [List.flatMap_cons, List.append_assoc]
    have h2 : (escB c ++ (l.flatMap escB ++ 34 :: z)).drop (escB c).length = l.flatMap escB ++ 34 :: z := by simp
    generalize hy : l.flatMap escB ++ 34 :: z = y at *
    rw [hd, List.cons_append] at h1 h2 ⊢
    rw [quoL, if_neg (by rw [eq34 h34]; simp), h1]
    simp only
    rw [h2, ← hy, quo_back l (acc ++ [c]) z f (by simpa using h)]
    simp
theorem esc_flat_len (l : List B) : l.length ≤ (l.flatMap escB).length := by
  induction l with
  | nil => simp
  | cons c l ih =>
    rw [List.flatMap_cons, List.length_append, List.length_cons]
    have := esc_pos c
    omega
def tT (l : List B) : Tok := ⟨2, l, Se.none, 0, 0⟩
theorem text_tok (l z : List B) (h : l.length ≤ 256) : tokenL (textW l ++ z) = .ok (tT l, (textW l).length) := by
  have hq : quoL ((l.flatMap escB ++ 34 :: z).length + 1) [] (l.flatMap escB ++ 34 :: z) = .ok (l, z) := by
    have := quo_back l [] z ((l.flatMap escB ++ 34 :: z).length + 1) (by have := esc_flat_len l; rw [List.length_append]; omega)
    simpa using this
  have hl : (l.flatMap escB ++ 34 :: z).length - z.length + 1 = (textW l).length := by unfold textW; simp only [List.length_append, List.length_cons, List.length_nil]; omega
  unfold textW
  rw [List.cons_append, List.append_assoc, List.singleton_append]
  unfold tokenL
  simp only
  rw [if_neg (by decide), if_neg (by decide), if_pos (by decide)]
  unfold quotedL
  rw [hq]
  simp only
  rw [if_neg (by omega)]
  unfold bump
  simp only
  rw [hl]
  rfl
theorem _root_.Go.Proofs.YtfljcfdfgojdoaaGreatDoor.Lexes.textW {l z : List B} {m : List Tok} (h : Lexes z m) (hl : l.length ≤ 256) : Lexes (textW l ++ z) (tT l :: m) := by
  refine Lexes.step (c := 34) (r1 := l.flatMap escB ++ [34] ++ z) (n := (Go.Proofs.YtfljcfdfgojdoaaGreatDoor.textW l).length) rfl (by have := text_tok l z hl; exact this) ?_
  have : (34 :: (l.flatMap escB ++ [34] ++ z)).drop (Go.Proofs.YtfljcfdfgojdoaaGreatDoor.textW l).length = z := by
    show (Go.Proofs.YtfljcfdfgojdoaaGreatDoor.textW l ++ z).drop _ = z
    simp
  rw [this]
  exact h
-- a set
theorem or_u64 (x y : Nat) (hx : x < 18446744073709551616) (hy : y < 18446744073709551616) : bits .or .u64 (x : Int) (y : Int) = ((x ||| y : Nat) : Int) := by
  have hz : x ||| y < 2 ^ 64 := Nat.or_lt_two_pow (by omega) (by omega)
  have h1 : (BitVec.ofInt 64 (x : Int)).toNat = x := by
    rw [BitVec.ofInt_natCast, BitVec.toNat_ofNat]; exact Nat.mod_eq_of_lt (by omega)
  have h2 : (BitVec.ofInt 64 (y : Int)).toNat = y := by
    rw [BitVec.ofInt_natCast, BitVec.toNat_ofNat]; exact Nat.mod_eq_of_lt (by omega)
  show IntKind.u64.wrap ((BitVec.ofInt 64 (x : Int) ||| BitVec.ofInt 64 (y : Int)).toNat : Int) = _
  rw [BitVec.toNat_or, h1, h2]
  exact wrap_u64 _ (by omega)
theorem wOk_or {x y : Int} (hx : wOk x) (hy : wOk y) : wOk (bits .or .u64 x y) := by
  obtain ⟨m, rfl⟩ := Int.eq_ofNat_of_zero_le hx.1
  obtain ⟨n, rfl⟩ := Int.eq_ofNat_of_zero_le hy.1
  have hm := hx.2
  have hn := hy.2
  rw [or_u64 m n (by omega) (by omega)]
  have : m ||| n < 2 ^ 64 := Nat.or_lt_two_pow (by omega) (by omega)
  exact ⟨by omega, by omega⟩
theorem bit_or {x y : Int} (hx : wOk x) (hy : wOk y) (k : Nat) : decide (bits .or .u64 x y / 2 ^ k % 2 = 1) = (decide (x / 2 ^ k % 2 = 1) || decide (y / 2 ^ k % 2 = 1)) := by
  obtain ⟨m, rfl⟩ := Int.eq_ofNat_of_zero_le hx.1
  obtain ⟨n, rfl⟩ := Int.eq_ofNat_of_zero_le hy.1
  have hm := hx.2
  have hn := hy.2
  rw [or_u64 m n (by omega) (by omega), bit_nat, bit_nat, bit_nat, Nat.testBit_or]
theorem wOk_none : wOk 0 := ⟨by decide, by decide⟩
theorem SeOk.none : SeOk Se.none := ⟨wOk_none, wOk_none, wOk_none, wOk_none⟩
theorem SeOk.any {s t : Se} (hs : SeOk s) (ht : SeOk t) : SeOk (anyS s t) := ⟨wOk_or hs.a ht.a, wOk_or hs.b ht.b, wOk_or hs.c ht.c, wOk_or hs.d ht.d⟩
theorem has_anyS {s t : Se} (hs : SeOk s) (ht : SeOk t) (b : Nat) : hasS (anyS s t) b = (hasS s b || hasS t b) := by
  unfold hasS wordS anyS
  split
  · exact bit_or hs.a ht.a _
  · split
    · exact bit_or hs.b ht.b _
    · split
      · exact bit_or hs.c ht.c _
      · exact bit_or hs.d ht.d _
theorem wOk_pow {k : Nat} (hk : k < 64) : wOk (IntKind.u64.wrap (2 ^ k)) ∧ IntKind.u64.wrap (2 ^ k) = ((2 ^ k : Nat) : Int) := by
  have h1 : 2 ^ k < 2 ^ 64 := Nat.pow_lt_pow_right (by decide) hk
  have e : ((2 : Int) ^ k) = ((2 ^ k : Nat) : Int) := by simp
  rw [e, wrap_u64 _ (by omega)]
  generalize 2 ^ k = m at h1 ⊢
  exact ⟨⟨by omega, by omega⟩, rfl⟩
theorem bit_one {x : Int} (hx : wOk x) {k : Nat} (hk : k < 64) (j : Nat) : decide (bits .or .u64 x (IntKind.u64.wrap (2 ^ k)) / 2 ^ j % 2 = 1) = (decide (x / 2 ^ j % 2 = 1) || decide (j = k)) := by
  obtain ⟨h1, h2⟩ := wOk_pow hk
  rw [bit_or hx h1, h2]
  congr 1
  rw [bit_nat, Nat.testBit_two_pow]
  exact decide_eq_decide.2 eq_comm
theorem SeOk.orBit {s : Se} (hs : SeOk s) (n : Nat) : SeOk (orBit s n) := by
  have h := (wOk_pow (Nat.mod_lt n (by decide : 0 < 64))).1
  unfold Go.Proofs.YtfljcfdfgojdoaaGreatDoor.orBit
  split
  · exact ⟨wOk_or hs.a h, hs.b, hs.c, hs.d⟩
  · split
    · exact ⟨hs.a, wOk_or hs.b h, hs.c, hs.d⟩
    · split
      · exact ⟨hs.a, hs.b, wOk_or hs.c h, hs.d⟩
      · exact ⟨hs.a, hs.b, hs.c, wOk_or hs.d h⟩
theorem has_orBit {s : Se} (hs : SeOk s) {n b : Nat} (hn : n < 256) (hb : b < 256) : hasS (orBit s n) b = (hasS s b || decide (b = n)) := by
  have hk := Nat.mod_lt n (by decide : 0 < 64)
  have f : ∀ (x : Bool), b / 64 ≠ n / 64 → x = (x || decide (b = n)) := fun x h => by
    rw [decide_eq_false (fun e => h (by rw [e])), Bool.or_false]
  have g : ∀ {x : Int}, wOk x → b / 64 = n / 64 → decide (bits .or .u64 x (IntKind.u64.wrap (2 ^ (n % 64))) / 2 ^ (b % 64) % 2 = 1) = (decide (x / 2 ^ (b % 64) % 2 = 1) || decide (b = n)) := fun {x} hx h => by
    rw [bit_one hx hk]
    congr 1
    exact decide_eq_decide.2 (by omega)
  unfold hasS wordS orBit
  obtain h | h | h | h : n / 64 = 0 ∨ n / 64 = 1 ∨ n / 64 = 2 ∨ n / 64 = 3 := by omega
  all_goals
    obtain k | k | k | k : b / 64 = 0 ∨ b / 64 = 1 ∨ b / 64 = 2 ∨ b / 64 = 3 := by omega
    all_goals
      simp only [h, k, if_true, if_false, Nat.reduceEqDiff]
      first
      | exact f _ (by omega)
      | exact g hs.a (by omega)
      | exact g hs.b (by omega)
      | exact g hs.c (by omega)
      | exact g hs.d (by omega)
theorem has_none (b : Nat) : hasS Se.none b = false := by
  have z : ∀ k : Nat, decide ((0 : Int) / 2 ^ k % 2 = 1) = false := fun k => by simp
  unfold hasS wordS Se.none
  split
  · exact z _
  · split
    · exact z _
    · split <;> exact z _
theorem bits_has : ∀ (k x : Nat), x + k ≤ 256 → SeOk (bitsOf x k) ∧ ∀ b, b < 256 → hasS (bitsOf x k) b = (decide (x ≤ b) && decide (b < x + k))
  | 0, x, _ => by
    refine ⟨SeOk.none, fun b _ => ?_⟩
    show hasS Se.none b = _
    rw [has_none]
    by_cases h : x ≤ b
    · simp [h]
    · simp [h]
  | k + 1, x, h => by
    obtain ⟨h1, h2⟩ := bits_has k x (by omega)
    rw [bitsOf_succ]
    refine ⟨h1.orBit _, fun b hb => ?_⟩
    rw [has_orBit h1 (by omega) hb, h2 b hb, Bool.eq_iff_iff]
    simp only [Bool.or_eq_true, Bool.and_eq_true, decide_eq_true_eq]
    omega
theorem span_has {x y : Nat} (hxy : x ≤ y) (hy : y < 256) : SeOk (spanS (UInt8.ofNat x) (UInt8.ofNat y)) ∧ ∀ b, b < 256 → hasS (spanS (UInt8.ofNat x) (UInt8.ofNat y)) b = (decide (x ≤ b) && decide (b ≤ y)) := by
  have ex : (UInt8.ofNat x).toNat = x := by rw [UInt8.toNat_ofNat']; exact Nat.mod_eq_of_lt (by omega)
  have ey : (UInt8.ofNat y).toNat = y := by rw [UInt8.toNat_ofNat']; exact Nat.mod_eq_of_lt (by omega)
  unfold spanS
  rw [ex, ey]
  obtain ⟨h1, h2⟩ := bits_has (y + 1 - x) x (by omega)
  refine ⟨h1, fun b hb => ?_⟩
  rw [h2 b hb, Bool.eq_iff_iff]
  simp only [Bool.and_eq_true, decide_eq_true_eq]
  omega
/-- a row put to a set -/
def putR (u : Se) (r : Nat × Nat) : Se := anyS u (spanS (UInt8.ofNat r.1) (UInt8.ofNat r.2))
def inR (rs : List (Nat × Nat)) (b : Nat) : Bool := rs.any fun r => decide (r.1 ≤ b) && decide (b ≤ r.2)
theorem putRs_has : ∀ (rs : List (Nat × Nat)) (u : Se), SeOk u → (∀ r ∈ rs, r.1 ≤ r.2 ∧ r.2 < 256) → SeOk (rs.foldl putR u) ∧ ∀ b, b < 256 → hasS (rs.foldl putR u) b = (hasS u b || inR rs b)
  | [], u, hu, _ => ⟨hu, fun b _ => by simp [inR]⟩
  | r :: rs, u, hu, h => by
    obtain ⟨h1, h2⟩ := h r List.mem_cons_self
    obtain ⟨a1, a2⟩ := span_has h1 h2
    obtain ⟨b1, b2⟩ := putRs_has rs (putR u r) (hu.any a1) fun q hq => h q (List.mem_cons_of_mem _ hq)
    refine ⟨b1, fun b hb => ?_⟩
    rw [List.foldl_cons, b2 b hb]
    unfold putR
    rw [has_anyS hu a1, a2 b hb]
    unfold inR
    rw [List.any_cons, Bool.or_assoc]
theorem row_back (f : Nat) (u : Se) (r : Nat × Nat) (hr : r.1 ≤ r.2 ∧ r.2 < 256) (d : B) (z : List B) (hd : d ≠ 45) : setL (f + 1) u (rowW r ++ d :: z) = setL f (putR u r) (d :: z) := by
  obtain ⟨a, b⟩ := r
  dsimp only at hr
  have ea : (UInt8.ofNat a).toNat = a := by rw [UInt8.toNat_ofNat']; exact Nat.mod_eq_of_lt (by omega)
  have eb : (UInt8.ofNat b).toNat = b := by rw [UInt8.toNat_ofNat']; exact Nat.mod_eq_of_lt (by omega)
  unfold rowW putR
  dsimp only
  obtain ⟨c, q, hc, _, h93, _, _⟩ := esc_head (UInt8.ofNat a)
  by_cases hab : a < b
  · rw [if_pos hab, List.append_assoc, List.cons_append]
    have h1 := esc_app (UInt8.ofNat a) (45 :: (escB (UInt8.ofNat b) ++ d :: z))
    have h2 : (escB (UInt8.ofNat a) ++ 45 :: (escB (UInt8.ofNat b) ++ d :: z)).drop (escB (UInt8.ofNat a)).length = 45 :: (escB (UInt8.ofNat b) ++ d :: z) := by simp
    have h3 := esc_app (UInt8.ofNat b) (d :: z)
    have h4 : (escB (UInt8.ofNat b) ++ d :: z).drop (escB (UInt8.ofNat b)).length = d :: z := by simp
    generalize escB (UInt8.ofNat b) ++ d :: z = y at *
    rw [hc, List.cons_append] at h1 h2 ⊢
    rw [setL, if_neg (by rw [eq93 h93]; simp), h1]
    simp only
    rw [h2]
    simp only
    rw [if_pos (by decide), h3]
    simp only
    rw [if_neg (by rw [ea, eb]; omega), h4]
  · obtain rfl : a = b := by omega
    rw [if_neg hab, List.append_nil]
    have h1 := esc_app (UInt8.ofNat a) (d :: z)
    have h2 : (escB (UInt8.ofNat a) ++ d :: z).drop (escB (UInt8.ofNat a)).length = d :: z := by simp
    rw [hc, List.cons_append] at h1 h2 ⊢
    rw [setL, if_neg (by rw [eq93 h93]; simp), h1]
    simp only
    rw [h2]
    simp only
    rw [if_neg (by rw [eq45 hd]; simp)]
theorem rows_head (rs : List (Nat × Nat)) (z : List B) : ∃ d q, rs.flatMap rowW ++ 93 :: z = d :: q ∧ d ≠ 45 ∧ d ≠ 94 := by
  rcases rs with _ | ⟨r, rs⟩
  · exact ⟨93, z, rfl, by decide, by decide⟩
  · obtain ⟨c, q, hc, _, _, h45, h94⟩ := esc_head (UInt8.ofNat r.1)
    rw [List.flatMap_cons]
    unfold rowW
    rw [hc]
    exact ⟨c, _, rfl, h45, h94⟩
theorem rows_back : ∀ (rs : List (Nat × Nat)) (u : Se) (f : Nat) (z : List B), rs.length < f → (∀ r ∈ rs, r.1 ≤ r.2 ∧ r.2 < 256) → setL f u (rs.flatMap rowW ++ 93 :: z) = .ok (rs.foldl putR u, z)
  | [], u, 0, z, h, _ => absurd h (by simp)
  | [], u, f + 1, z, _, _ => by
    rw [List.flatMap_nil, List.nil_append, setL, if_pos (by decide)]
    rfl
  | r :: rs, u, 0, z, h, _ => absurd h (by simp)
  | r :: rs, u, f + 1, z, h, hr => by
    have ih := rows_back rs (putR u r) f z (by simpa using h) fun q hq => hr q (List.mem_cons_of_mem _ hq)
    obtain ⟨d, q, h1, h2, _⟩ := rows_head rs z
    rw [List.flatMap_cons, List.append_assoc, h1, row_back f u r (hr r List.mem_cons_self) d q h2, ← h1, ih]
    rfl
-- the rows of marks
theorem startP_all {p : Nat → Bool} : ∀ e, p e = true → ∀ k, startP p e ≤ k → k ≤ e → p k = true
  | 0, h, k, _, h2 => by obtain rfl : k = 0 := by omega
                         exact h
  | e + 1, h, k, h1, h2 => by
    unfold startP at h1
    split at h1
    · rename_i he
      rcases Nat.lt_or_eq_of_le h2 with hl | rfl
      · exact startP_all e he k h1 (by omega)
      · exact h
    · obtain rfl : k = e + 1 := by omega
      exact h
theorem startP_low {p : Nat → Bool} : ∀ e s, startP p e = s + 1 → p s = false
  | 0, s, h => by unfold startP at h; omega
  | e + 1, s, h => by
    unfold startP at h
    split at h
    · exact startP_low e s h
    · obtain rfl : s = e := by omega
      rename_i he
      simpa using he
theorem last_up {p : Nat → Bool} : ∀ n b, 255 - b = n → b < 256 → p b = true → ∃ e, b ≤ e ∧ e < 256 ∧ lastP p e = true ∧ startP p e ≤ b := by
  intro n
  induction n with
  | zero =>
    intro b hn hb h
    obtain rfl : b = 255 := by omega
    exact ⟨255, Nat.le_refl _, hb, by unfold lastP; rw [h]; simp, startP_le p 255⟩
  | succ n ih =>
    intro b hn hb h
    by_cases hl : lastP p b = true
    · exact ⟨b, Nat.le_refl _, hb, hl, startP_le p b⟩
    · unfold lastP at hl
      rw [h, Bool.true_and] at hl
      have hl' : (decide (b < 255) && p (b + 1)) = true := by simpa using hl
      rw [Bool.and_eq_true, decide_eq_true_eq] at hl'
      obtain ⟨e, h1, h2, h3, h4⟩ := ih (b + 1) (by omega) (by omega) hl'.2
      refine ⟨e, by omega, h2, h3, ?_⟩
      rcases Nat.lt_or_eq_of_le h4 with h5 | h5
      · omega
      · have := startP_low e b h5
        rw [h] at this; cases this
theorem rows_are (p : Nat → Bool) {b : Nat} (hb : b < 256) : inR (rowsTo p 256) b = p b := by
  rw [Bool.eq_iff_iff]
  unfold inR
  rw [List.any_eq_true]
  constructor
  · rintro ⟨r, hr, h⟩
    unfold rowsTo at hr
    obtain ⟨e, he, rfl⟩ := List.mem_map.1 hr
    rw [Bool.and_eq_true, decide_eq_true_eq, decide_eq_true_eq] at h
    have hl := (List.mem_filter.1 he).2
    unfold lastP at hl
    rw [Bool.and_eq_true] at hl
    exact startP_all e hl.1 b h.1 h.2
  · intro h
    obtain ⟨e, h1, h2, h3, h4⟩ := last_up (255 - b) b rfl hb h
    refine ⟨(startP p e, e), List.mem_map.2 ⟨e, List.mem_filter.2 ⟨List.mem_range.2 h2, h3⟩, rfl⟩, ?_⟩
    rw [Bool.and_eq_true, decide_eq_true_eq, decide_eq_true_eq]
    exact ⟨h4, h1⟩
theorem word_same {x y : Int} (hx : wOk x) (hy : wOk y) (h : ∀ j, j < 64 → decide (x / 2 ^ j % 2 = 1) = decide (y / 2 ^ j % 2 = 1)) : x = y := by
  obtain ⟨a, rfl⟩ := Int.eq_ofNat_of_zero_le hx.1
  obtain ⟨b, rfl⟩ := Int.eq_ofNat_of_zero_le hy.1
  have ha : a < 2 ^ 64 := by have := hx.2; omega
  have hb : b < 2 ^ 64 := by have := hy.2; omega
  congr 1
  refine Nat.eq_of_testBit_eq fun j => ?_
  by_cases hj : j < 64
  · have := h j hj
    rw [bit_nat, bit_nat] at this
    exact this
  · have h2 : 2 ^ 64 ≤ 2 ^ j := Nat.pow_le_pow_right (by decide) (by omega)
    rw [Nat.testBit_lt_two_pow (by omega), Nat.testBit_lt_two_pow (by omega)]
/-- two sets with the same bytes are one set -/
theorem SeOk.same {s t : Se} (hs : SeOk s) (ht : SeOk t) (h : ∀ x, x < 256 → hasS s x = hasS t x) : s = t := by
  have key : ∀ k, k < 4 → ∀ j, j < 64 → decide (wordS s k / 2 ^ j % 2 = 1) = decide (wordS t k / 2 ^ j % 2 = 1) := fun k hk j hj => by
    have := h (64 * k + j) (by omega)
    unfold hasS at this
    rw [show (64 * k + j) / 64 = k by omega, show (64 * k + j) % 64 = j by omega] at this
    exact this
  obtain ⟨a, b, c, d⟩ := s
  obtain ⟨a', b', c', d'⟩ := t
  have h0 := word_same hs.a ht.a (key 0 (by decide))
  have h1 := word_same hs.b ht.b (key 1 (by decide))
  have h2 := word_same hs.c ht.c (key 2 (by decide))
  have h3 := word_same hs.d ht.d (key 3 (by decide))
  dsimp only at h0 h1 h2 h3
  rw [h0, h1, h2, h3]
def tS (s : Se) : Tok := ⟨3, [], s, 0, 0⟩
theorem rowsTo_ok (p : Nat → Bool) : ∀ r ∈ rowsTo p 256, r.1 ≤ r.2 ∧ r.2 < 256 := fun _ h => rowsTo_in h
theorem rows_lt (p : Nat → Bool) : (rowsTo p 256).length ≤ ((rowsTo p 256).flatMap rowW).length := by
  generalize rowsTo p 256 = rs
  induction rs with
  | nil => simp
  | cons r rs ih =>
    rw [List.flatMap_cons, List.length_append, List.length_cons]
    have : 1 ≤ (rowW r).length := by
      unfold rowW
      have := esc_pos (UInt8.ofNat r.1)
      rw [List.length_append]; omega
    omega
/-- a set, back from its rows -/
theorem rows_set (p : Nat → Bool) : SeOk ((rowsTo p 256).foldl putR Se.none) ∧ ∀ b, b < 256 → hasS ((rowsTo p 256).foldl putR Se.none) b = p b := by
  obtain ⟨h1, h2⟩ := putRs_has (rowsTo p 256) Se.none SeOk.none (rowsTo_ok p)
  refine ⟨h1, fun b hb => ?_⟩
  rw [h2 b hb, has_none, Bool.false_or, rows_are p hb]
theorem set_tok {s : Se} (hs : SeOk s) (z : List B) : tokenL (setP (hasS s) ++ z) = .ok (tS s, (setP (hasS s)).length) := by
  unfold setP
  split
  · obtain ⟨h1, h2⟩ := rows_set fun b => !hasS s b
    have hb := rows_back (rowsTo (fun b => !hasS s b) 256) Se.none
    have hlt := rows_lt fun b => !hasS s b
    generalize hrs : rowsTo (fun b => !hasS s b) 256 = rs at *
    have hok : ∀ r ∈ rs, r.1 ≤ r.2 ∧ r.2 < 256 := by rw [← hrs]; exact rowsTo_ok _
    have hse : notS (rs.foldl putR Se.none) = s := SeOk.same h1.nots hs fun x hx => by rw [has_not h1 hx, h2 x hx, Bool.not_not]
    simp only [List.cons_append, List.nil_append, List.append_assoc]
    unfold tokenL
    simp only
    rw [if_neg (by decide), if_neg (by decide), if_neg (by decide), if_pos (by decide)]
    unfold bytesL
    simp only
    rw [if_pos (by decide), hb _ z (by simp only [List.length_append, List.length_cons]; omega) hok]
    unfold setFin bump
    simp only [if_true, hse, List.length_cons, List.length_append]
    simp only [tS, Except.ok.injEq, Prod.mk.injEq, true_and]
    simp
    all_goals omega
  · obtain ⟨h1, h2⟩ := rows_set (hasS s)
    have hb := rows_back (rowsTo (hasS s) 256) Se.none
    have hlt := rows_lt (hasS s)
    generalize hrs : rowsTo (hasS s) 256 = rs at *
    have hok : ∀ r ∈ rs, r.1 ≤ r.2 ∧ r.2 < 256 := by rw [← hrs]; exact rowsTo_ok _
    have hse : rs.foldl putR Se.none = s := SeOk.same h1 hs h2
    simp only [List.cons_append, List.nil_append, List.append_assoc]
    unfold tokenL
    simp only
    rw [if_neg (by decide), if_neg (by decide), if_neg (by decide), if_pos (by decide)]
    have hb' := hb ((rs.flatMap rowW ++ 93 :: z).length + 1) z (by rw [List.length_append, List.length_cons]; omega) hok
    have hl : (rs.flatMap rowW ++ 93 :: z).length = (rs.flatMap rowW).length + 1 + z.length := by rw [List.length_append, List.length_cons]; omega
    obtain ⟨d, q, hd, _, h94⟩ := rows_head rs z
    rw [hd] at hb' hl ⊢
    unfold bytesL
    simp only
    rw [if_neg (by rw [eq94 h94]; simp), hb']
    unfold setFin bump
    simp only [Bool.false_eq_true, if_false, hse, hl]
    simp only [tS, Except.ok.injEq, Prod.mk.injEq, true_and]
    simp
    all_goals omega
theorem setP_open (p : Nat → Bool) : ∃ r, setP p = 91 :: r := by
  unfold setP
  split
  · exact ⟨_, rfl⟩
  · exact ⟨_, rfl⟩
theorem _root_.Go.Proofs.YtfljcfdfgojdoaaGreatDoor.Lexes.setP {s : Se} (hs : SeOk s) {z : List B} {m : List Tok} (h : Lexes z m) : Lexes (setP (hasS s) ++ z) (tS s :: m) := by
  have ht := set_tok hs z
  obtain ⟨r, hr⟩ := setP_open (hasS s)
  have hd : (Go.Proofs.YtfljcfdfgojdoaaGreatDoor.setP (hasS s) ++ z).drop (Go.Proofs.YtfljcfdfgojdoaaGreatDoor.setP (hasS s)).length = z := by simp
  generalize (Go.Proofs.YtfljcfdfgojdoaaGreatDoor.setP (hasS s)).length = n at *
  rw [hr] at ht hd ⊢
  rw [List.cons_append] at ht hd ⊢
  refine Lexes.step rfl ht ?_
  rw [hd]
  exact h
end Go.Proofs.YtfljcfdfgojdoaaGreatDoor.Sh

namespace Go.Proofs.YtfljcfdfgojdoaaGreatDoor
open Go.RowKit Go.Lib

/-- a text that is a NAME as a whole -/
def NameOk (s : ByteArray) : Prop := (nextL 0 (sfx s 0)).err = 0 ∧ (nextL 0 (sfx s 0)).tok.kind = 1 ∧ (nextL 0 (sfx s 0)).tok.text = s.toList ∧ reservedB s.toList = false

end Go.Proofs.YtfljcfdfgojdoaaGreatDoor

namespace Go.Proofs.YtfljcfdfgojdoaaGreatDoor
open Go.RowKit Go.Lib

/-- what may stand in one expression, its parts aside -/
inductive Node : Int → List B → Se → Nat → Int → Int → Prop
  | text (x : List B) (h : x.length ≤ 256) : Node 1 x Se.none 0 0 0
  | set (s : Se) : Node 2 [] s 0 0 0
  | name (x : List B) (h : NameOk ⟨x.toArray⟩) (hx : x.length ≤ 31) : Node 3 x Se.none 0 0 0
  | cat (n : Nat) (h : 2 ≤ n) : Node 4 [] Se.none n 0 0
  | alt (n : Nat) (h : 2 ≤ n) : Node 5 [] Se.none n 0 0
  | and (n : Nat) (h : 2 ≤ n) : Node 6 [] Se.none n 0 0
  | not : Node 7 [] Se.none 1 0 0
  | rep (a b : Int) (h : (b = -1 ∧ (a = 0 ∨ a = 1)) ∨ (b ≠ -1 ∧ 0 ≤ a ∧ a ≤ b ∧ b ≤ 64)) : Node 8 [] Se.none 1 a b
/-- an expression that may be, of no more than so many levels -/
def OkRe : Nat → Re → Prop
  | 0, _ => False
  | n + 1, .mk k x s ps mn mx => Node k x s ps.length mn mx ∧ ∀ p ∈ ps, OkRe n p
end Go.Proofs.YtfljcfdfgojdoaaGreatDoor
