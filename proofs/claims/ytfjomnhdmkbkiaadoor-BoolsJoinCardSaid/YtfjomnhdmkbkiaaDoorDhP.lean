/-
  The references of layers 2, 5, 10 and 11, first part: bits, sets, plain functions, Has, In, Firsts, alike, classes, Sort, step.
-/
import Derived.Test.YtfjomnhdmkbkiaaDoorDgQ
import Derived.Test.YtfjomnhdmkbkiaaDoorDfA
import Derived.Deep.QuietTactic
import Derived.BigQuiet
import Derived.Test.YtfjomnhdmkbkiaaDoorDf5
import Derived.Test.YtfjomnhdmkbkiaaDoorDgP
import Derived.Test.YtfjomnhdmkbkiaaDoorDfN
import Derived.Test.YtfjomnhdmkbkiaaDoorDfI
import Derived.Test.YtfjomnhdmkbkiaaDoorDfG
import Derived.Deep.AppendLies
import Derived.Deep.RegionHeld3
import Derived.Laws.AppendOwnNone
namespace Go.Proofs.YtfjomnhdmkbkiaaDoor.Im
open Go.RowKit Go.Lib

theorem pw_pos {m : Nat} (h : m < 64) : 0 < pwR m := by
  rw [pwR_eq m h]
  have : 0 < 2 ^ m := Nat.pow_pos (by decide)
  omega
theorem quiet_same {P : Program} {f : FuncId} {args : Array Value} {w : World} {n : Nat} {v : Value}
    (h : Calls P f args (w.drewN n) fun e w' => e = .returned v ∧ w.drewN n = w') : Calls P f args (w.drewN n) fun e w'' => e = .returned v ∧ ∃ m, w'' = w.drewN m :=
  h.mono fun _ _ ⟨he, hm⟩ => ⟨he, n, hm.symm⟩
theorem word_has {x : Int} (hx : wOk x) {m : Nat} (hm : m < 64) : ((IntKind.u64.wrap (x.tdiv (pwR m))).tmod 2 == 1) = decide (x / 2 ^ m % 2 = 1) := by
  obtain ⟨w, rfl⟩ := Int.eq_ofNat_of_zero_le hx.1
  have hw : w < 2 ^ 64 := by have := hx.2; omega
  rw [pwR_eq m hm]
  have e1 : (w : Int).tdiv ((2 ^ m : Nat) : Int) = ((w / 2 ^ m : Nat) : Int) := by
    rw [Int.tdiv_eq_ediv_of_nonneg (by omega)]; norm_cast
  have hle : w / 2 ^ m ≤ w := Nat.div_le_self _ _
  have e2 : ((w : Int) / 2 ^ m) = ((w / 2 ^ m : Nat) : Int) := by norm_cast
  rw [e1, e2]
  generalize w / 2 ^ m = q at *
  rw [wrap_u64 _ (by omega), Int.tmod_eq_emod_of_nonneg (by omega), Bool.eq_iff_iff, beq_iff_eq, decide_eq_true_eq]
theorem below_drewN {B : Nat} {w w' : World} (h : Below B w w') (n : Nat) : Below B w (w'.drewN n) := ⟨h.os, h.tape, h.output, h.size, h.block⟩
theorem has_at0 {x0 x1 x2 x3 : Int} {b : Nat} (hx : wOk x0) (h : b / 64 = 0) : ((IntKind.u64.wrap (x0.tdiv (pwR (b % 64)))).tmod 2 == 1) = hasS ⟨x0, x1, x2, x3⟩ b := by
  rw [word_has hx (Nat.mod_lt _ (by decide))]; unfold hasS wordS; rw [if_pos h]
theorem has_at1 {x0 x1 x2 x3 : Int} {b : Nat} (hx : wOk x1) (h : b / 64 = 1) : ((IntKind.u64.wrap (x1.tdiv (pwR (b % 64)))).tmod 2 == 1) = hasS ⟨x0, x1, x2, x3⟩ b := by
  rw [word_has hx (Nat.mod_lt _ (by decide))]; unfold hasS wordS; rw [if_neg (by omega), if_pos h]
theorem has_at2 {x0 x1 x2 x3 : Int} {b : Nat} (hx : wOk x2) (h : b / 64 = 2) : ((IntKind.u64.wrap (x2.tdiv (pwR (b % 64)))).tmod 2 == 1) = hasS ⟨x0, x1, x2, x3⟩ b := by
  rw [word_has hx (Nat.mod_lt _ (by decide))]; unfold hasS wordS; rw [if_neg (by omega), if_neg (by omega), if_pos h]
theorem has_at3 {x0 x1 x2 x3 : Int} {b : Nat} (hx : wOk x3) (h : b / 64 = 3) : ((IntKind.u64.wrap (x3.tdiv (pwR (b % 64)))).tmod 2 == 1) = hasS ⟨x0, x1, x2, x3⟩ b := by
  rw [word_has hx (Nat.mod_lt _ (by decide))]; unfold hasS wordS; rw [if_neg (by omega), if_neg (by omega), if_neg (by omega)]
set_option maxRecDepth 100000 in
set_option maxHeartbeats 4000000 in
theorem hasR_any (s : Se) (hs : s.ok) (n : Int) (b : Nat) (hn : n = b) (hb : b < 256) (w : World) :
    Calls Tryd.prog 83 #[s.v, .int .i64 n] w fun e w' => e = .returned (.bool (hasS s b)) ∧ Below w.heap.size w w' := by
  subst hn
  obtain ⟨x0, x1, x2, x3⟩ := s
  obtain ⟨h0, h1, h2, h3⟩ := hs
  have hcase : b / 64 = 0 ∨ b / 64 = 1 ∨ b / 64 = 2 ∨ b / 64 = 3 := by omega
  have hm : b % 64 < 64 := Nat.mod_lt _ (by decide)
  have hp := pw_pos hm
  have hpn : pwR (b % 64) ≠ 0 := by omega
  have HB := hid (fun k (hk : b / 64 = k) (hk4 : k < 4) => (show 0 ≤ (b : Int) / 64 ∧ (b : Int) / 64 < 4 by omega))
  rcases hcase with hq | hq | hq | hq
  all_goals
    have hq' : (b : Int) / 64 = _ := (by omega : _ = ((b / 64 : Nat) : Int)).trans (congrArg _ hq)
    simp only [Int.cast_ofNat_Int] at hq'
    have HQ := hid hq
    have hk := HB.out _ hq (by decide)
    clear hq HB
    go_enter Tryd.func83, Tryd.ntmps83
    go_wp2
    go_quiet ((go_at_call 86; exact quiet_same (powerR_any _ (b % 64) (tmod_nat b) (by omega) _)))
    go_wp2
    go_ret
    have hBB := below_drewN ((Below.refl w.heap.size w).alloc (Nat.le_refl _) (.cells #[.int .u64 x0, .int .u64 x1, .int .u64 x2, .int .u64 x3] 65))
    first
      | exact ⟨bool_eq (has_at0 h0 HQ.out), hBB _⟩
      | exact ⟨bool_eq (has_at1 h1 HQ.out), hBB _⟩
      | exact ⟨bool_eq (has_at2 h2 HQ.out), hBB _⟩
      | exact ⟨bool_eq (has_at3 h3 HQ.out), hBB _⟩
end Go.Proofs.YtfjomnhdmkbkiaaDoor.Im

namespace Go.Proofs.YtfjomnhdmkbkiaaDoor.Im

/-- are two bytes in the same of some sets? -/
def alikeM (l : List Se) (a b : Nat) : Bool := l.all fun s => hasS s a == hasS s b
theorem key_alike {l : List Se} {a b : Nat} : keyM l a = keyM l b ↔ alikeM l a b = true := by
  unfold alikeM
  rw [List.all_eq_true]
  constructor
  · intro h s hs
    rw [key_has h hs]
    exact beq_self_eq_true _
  · intro h
    unfold keyM
    refine List.map_congr_left fun s hs => ?_
    rw [eq_of_beq (h s hs)]
/-- of the classes so many have come -/
structure ClsN (fs : List Nat) (b n : Nat) : Prop where
  le : n ≤ fs.length
  iff : ∀ i (hi : i < fs.length), fs[i] < b ↔ i < n
theorem ClsN.start (fs : List Nat) : ClsN fs 0 0 := ⟨Nat.zero_le _, fun i hi => by omega⟩
theorem ClsN.last {l : List Se} {ks : List (List B)} {p : List Se} {fs : List Nat} (h : PartAt l 256 ks p fs) {n : Nat} (hn : ClsN fs 256 n) : n = fs.length := by
  rcases Nat.lt_or_ge n fs.length with hl | hl
  · have := (hn.iff n hl).1 (h.lt _ (List.getElem_mem hl))
    omega
  · have := hn.le
    omega
theorem ClsN.step {l : List Se} {ks : List (List B)} {p : List Se} {fs : List Nat} (h : PartAt l 256 ks p fs) {b n : Nat} (hn : ClsN fs b n) (hb : b < 256) :
    ks.idxOf (keyM l b) ≤ n ∧ ks.idxOf (keyM l b) < fs.length ∧ (∀ k (hk : k < fs.length), keyM l fs[k] = keyM l b ↔ k = ks.idxOf (keyM l b)) ∧
      (ks.idxOf (keyM l b) < n → ClsN fs (b + 1) n) ∧ (ks.idxOf (keyM l b) = n → fs[n]? = some b ∧ ClsN fs (b + 1) (n + 1)) := by
  obtain ⟨hi, he⟩ := h.idx (h.all b hb)
  generalize hcd : ks.idxOf (keyM l b) = c at hi he
  obtain ⟨hle0, hc⟩ := hn
  have hle : fs[c] ≤ b := by
    rcases Nat.lt_or_ge b fs[c] with hl | hl
    · exact absurd he.symm (h.least _ (List.getElem_mem hi) b hl)
    · exact hl
  have hcn : c ≤ n := by
    rcases Nat.lt_or_ge n c with hl | hl
    · have h1 := (List.pairwise_iff_getElem.1 h.up) n c (by omega) hi hl
      have := (hc n (by omega)).1 (by omega)
      omega
    · exact hl
  have heq : ∀ i (hi' : i < fs.length), fs[i] = b → i = c := fun i hi' e' => h.nodup hi' hi (by rw [he, e'])
  refine ⟨hcn, hi, fun k hk => ⟨fun e => h.nodup hk hi (e.trans he.symm), fun e => by subst e; exact he⟩, fun hlt => ⟨hle0, fun i hi' => ⟨fun h1 => ?_, fun h1 => ?_⟩⟩, fun hcn' => ?_⟩
  · by_cases e1 : fs[i] = b
    · have := heq i hi' e1; omega
    · exact (hc i hi').1 (by omega)
  · have := (hc i hi').2 h1; omega
  · subst hcn'
    have hb' : fs[c] = b := by
      have := fun hl => (hc c hi).1 hl
      rcases Nat.lt_or_ge fs[c] b with hl | hl
      · have := this hl; omega
      · omega
    refine ⟨by rw [List.getElem?_eq_getElem hi, hb'], by omega, fun i hi' => ⟨fun hlt => ?_, fun hlt => ?_⟩⟩
    · by_cases e1 : fs[i] = b
      · have := heq i hi' e1; omega
      · have := (hc i hi').1 (by omega); omega
    · by_cases e1 : i = c
      · subst e1; omega
      · have := (hc i hi').2 (by omega); omega
theorem clsOf_len (l : List Se) (ks : List (List B)) : (clsOf l ks).length = 256 := by unfold clsOf; simp
theorem clsOf_get (l : List Se) (ks : List (List B)) {x : Nat} (hx : x < (clsOf l ks).length) : (clsOf l ks)[x] = (ks.idxOf (keyM l x) : Int) := by
  have h : (clsOf l ks)[x]? = some (ks.idxOf (keyM l x) : Int) := by
    rw [clsOf_len] at hx
    unfold clsOf
    rw [List.getElem?_map, List.getElem?_range' (by omega)]
    simp
  rw [List.getElem?_eq_getElem hx] at h
  exact Option.some.inj h
theorem clsOf_parts {l : List Se} {ks : List (List B)} {p : List Se} {fs : List Nat} (h : PartAt l 256 ks p fs) : partsOf (clsOf l ks) = some p.length := by
  unfold partsOf
  rw [if_pos (clsOf_len _ _)]
  unfold clsOf
  rw [parts_clsOf h 256 0 0 rfl (Nat.zero_le _) (fun i hi => by omega), h.len]
/-- the parts themselves tell the same bytes apart -/
theorem PartAt.alike {l : List Se} {ks : List (List B)} {p : List Se} {fs : List Nat} (h : PartAt l 256 ks p fs) {a b : Nat} (ha : a < 256) (hb : b < 256) : alikeM p a b = true ↔ keyM l a = keyM l b := by
  have hD : ∀ i (hi : i < p.length), p.getD i Se.none = p[i] := fun i hi => by rw [List.getD_eq_getElem?_getD, List.getElem?_eq_getElem hi]; rfl
  unfold alikeM
  rw [List.all_eq_true]
  constructor
  · intro hall
    obtain ⟨hi, he⟩ := h.idx (h.all a ha)
    generalize ks.idxOf (keyM l a) = i at hi he
    have hip : i < p.length := by rw [h.len]; exact hi
    have h1 := eq_of_beq (hall p[i] (List.getElem_mem hip))
    rw [← hD i hip, h.has i hi a ha, h.has i hi b hb, decide_eq_true (⟨ha, he.symm⟩ : a < 256 ∧ keyM l a = keyM l fs[i])] at h1
    have h2 := of_decide_eq_true h1.symm
    exact he.symm.trans h2.2.symm
  · intro e s hs
    obtain ⟨i, hip, rfl⟩ := List.getElem_of_mem hs
    have hi : i < fs.length := by rw [← h.len]; exact hip
    rw [← hD i hip, h.has i hi a ha, h.has i hi b hb, e]
    refine beq_iff_eq.2 (decide_eq_decide.2 ⟨fun ⟨_, x⟩ => ⟨hb, x⟩, fun ⟨_, x⟩ => ⟨ha, x⟩⟩)
/-- a part is the bytes of one number -/
theorem PartAt.part {l : List Se} {ks : List (List B)} {p : List Se} {fs : List Nat} (h : PartAt l 256 ks p fs) {i : Nat} (hip : i < p.length) {x : Nat} (hx : x < 256) : hasS p[i] x = decide (ks.idxOf (keyM l x) = i) := by
  have hD : p.getD i Se.none = p[i] := by rw [List.getD_eq_getElem?_getD, List.getElem?_eq_getElem hip]; rfl
  have hi : i < fs.length := by rw [← h.len]; exact hip
  rw [← hD, h.has i hi x hx]
  obtain ⟨h1, h2⟩ := h.idx (h.all x hx)
  refine decide_eq_decide.2 ⟨fun ⟨_, e⟩ => h.nodup h1 hi (h2.trans e), fun e => ⟨hx, ?_⟩⟩
  subst e
  exact h2.symm
/-- the states to which edges go -/
def stepM (es : List Edge) (row : List Int) (b : Nat) : List Int := (es.filter fun e => decide (e.fr ∈ row) && hasS e.st b).map Edge.dst
theorem sort_ext {l m : List Int} (h : ∀ x, x ∈ l ↔ x ∈ m) : sortU l = sortU m :=
  up_one (up_sortU l) (up_sortU m) fun x => by rw [mem_sortU, mem_sortU]; exact h x
theorem step_behind {es : List Edge} {row : List Int} {s : Se} {b : Nat} (h : firstS s = some b) : sortU (stepM es row b) = sortU (behindM es row s) := by
  refine sort_ext fun y => ?_
  rw [mem_behindM _ _ _ _ h]
  unfold stepM
  rw [List.mem_map]
  constructor
  · rintro ⟨e, he, h⟩
    obtain ⟨h1, h2⟩ := List.mem_filter.1 he
    simp only [Bool.and_eq_true, decide_eq_true_eq] at h2
    exact ⟨e, h1, h2.1, h2.2, h⟩
  · rintro ⟨e, h1, h2, h3, h4⟩
    exact ⟨e, List.mem_filter.2 ⟨h1, by simp [h2, h3]⟩, h4⟩
/-- rows that rise are sorted -/
theorem rise_sorted {n : Int} : ∀ (l : List Int) (q : Option Int), riseM n q l = true → l.Pairwise (· < ·) ∧ ∀ z, q = some z → ∀ x ∈ l, z < x
  | [], q, _ => ⟨List.Pairwise.nil, fun _ _ x hx => by cases hx⟩
  | s :: l, none, h => by
    unfold riseM at h
    simp only [Bool.and_eq_true] at h
    obtain ⟨h1, h2⟩ := rise_sorted l (some s) h.2
    exact ⟨List.Pairwise.cons (h2 s rfl) h1, fun _ e => by cases e⟩
  | s :: l, some q, h => by
    unfold riseM at h
    simp only [Bool.and_eq_true, decide_eq_true_eq] at h
    obtain ⟨h1, h2⟩ := rise_sorted l (some s) h.2
    refine ⟨List.Pairwise.cons (h2 s rfl) h1, fun z e x hx => ?_⟩
    cases e
    rcases List.mem_cons.1 hx with rfl | hx
    · exact h.1.2
    · have := h2 s rfl x hx
      omega
theorem sort_rise {n : Int} {l : List Int} (h : riseM n none l = true) : sortU l = l :=
  up_one (up_sortU l) (rise_sorted l none h).1 fun x => mem_sortU x l
end Go.Proofs.YtfjomnhdmkbkiaaDoor.Im

namespace Go.Proofs.YtfjomnhdmkbkiaaDoor.Im

/-- how the bytes' numbers come, over some sets -/
structure ClsLaw (L : List Se) (fs : List Nat) (c : Nat → Nat) : Prop where
  most : fs.length ≤ 256
  lt : ∀ k (hk : k < fs.length), fs[k] < 256
  al : ∀ b, b < 256 → ∀ k (hk : k < fs.length), alikeM L fs[k] b = decide (k = c b)
  step : ∀ b, b < 256 → ∀ n, ClsN fs b n → c b ≤ n ∧ (c b < n → ClsN fs (b + 1) n) ∧ (c b = n → fs[n]? = some b ∧ ClsN fs (b + 1) (n + 1))
theorem PartAt.most {l : List Se} {ks : List (List B)} {p : List Se} {fs : List Nat} (h : PartAt l 256 ks p fs) : fs.length ≤ 256 := by
  rcases Nat.lt_or_ge 256 fs.length with hl | hl
  · have key : ∀ i (hi : i < fs.length), i ≤ fs[i] := fun i => by
      induction i with
      | zero => intro _; omega
      | succ i ih =>
        intro hi
        have h1 := (List.pairwise_iff_getElem.1 h.up) i (i + 1) (by omega) hi (by omega)
        have := ih (by omega)
        omega
    have h1 := key 256 hl
    have h2 := h.lt _ (List.getElem_mem hl)
    omega
  · exact hl
theorem PartAt.law {l : List Se} {ks : List (List B)} {p : List Se} {fs : List Nat} (h : PartAt l 256 ks p fs) : ClsLaw l fs (fun b => ks.idxOf (keyM l b)) := by
  refine ⟨h.most, fun k hk => h.lt _ (List.getElem_mem hk), fun b hb k hk => ?_, fun b hb n hn => ?_⟩
  · obtain ⟨hi, he⟩ := h.idx (h.all b hb)
    rw [Bool.eq_iff_iff, decide_eq_true_eq, ← key_alike]
    exact ⟨fun e => h.nodup hk hi (e.trans he.symm), fun e => by subst e; exact he⟩
  · obtain ⟨h1, _, _, h2, h3⟩ := hn.step h hb
    exact ⟨h1, h2, h3⟩
theorem PartAt.law2 {l : List Se} {ks : List (List B)} {p : List Se} {fs : List Nat} (h : PartAt l 256 ks p fs) : ClsLaw p fs (fun b => ks.idxOf (keyM l b)) := by
  have h0 := h.law
  refine ⟨h0.most, h0.lt, fun b hb k hk => ?_, h0.step⟩
  rw [← h0.al b hb k hk, Bool.eq_iff_iff, h.alike (h0.lt k hk) hb, key_alike]
/-- the numbers of the bytes -/
def numsOf (c : Nat → Nat) : List Int := (List.range' 0 256).map fun x => (c x : Int)
theorem numsOf_cls (l : List Se) (ks : List (List B)) : numsOf (fun b => ks.idxOf (keyM l b)) = clsOf l ks := rfl
/-- the reference's search for a number, so far -/
def atM (c n k : Nat) : Nat := if k ≤ c ∧ c < n then c else n
theorem atM_start (c n : Nat) : atM c n n = n := by unfold atM; rw [if_neg (by omega)]
theorem atM_end {c n : Nat} (h : c ≤ n) : atM c n 0 = c := by unfold atM; split <;> omega
theorem atM_step {c n k : Nat} (h : k < n) : atM c n k = if k = c then k else atM c n (k + 1) := by
  unfold atM
  repeat' split
  all_goals omega
/-- the reference's walk over the classes' first bytes -/
def nextR (es : List Edge) (row : List Int) : List (List Int) → List Int → List Nat → Except Int (List Int × List (List Int))
  | rows, acc, [] => .ok (acc, rows)
  | rows, acc, b :: bs =>
    if sortU (stepM es row b) ∈ rows then nextR es row rows (acc ++ [(rows.idxOf (sortU (stepM es row b)) : Int)]) bs
    else if 1024 ≤ rows.length then .error 2
    else nextR es row (rows ++ [sortU (stepM es row b)]) (acc ++ [(rows.length : Int)]) bs
def addAcc (acc : List Int) : Except Int (List Int × List (List Int)) → Except Int (List Int × List (List Int))
  | .error e => .error e
  | .ok (l, r) => .ok (acc ++ l, r)
theorem nextR_eq {es : List Edge} {row : List Int} : ∀ (p : List Se) (bs : List Nat) (rows : List (List Int)) (acc : List Int), bs.length = p.length → (∀ i (h : i < p.length), firstS p[i] = bs[i]?) → rows.length ≤ 1024 →
    nextR es row rows acc bs = addAcc acc (nextM es row rows p)
  | [], [], rows, acc, _, _, _ => by simp [nextR, nextM, addAcc]
  | s :: p, b :: bs, rows, acc, hl, hf, hr => by
    have hs : firstS s = some b := hf 0 (by simp)
    have hl' : bs.length = p.length := by simpa using hl
    have hf' : ∀ i (h : i < p.length), firstS p[i] = bs[i]? := fun i hi => by
      have := hf (i + 1) (by simpa using hi)
      simpa using this
    have e := step_behind (es := es) (row := row) hs
    unfold nextR nextM putM
    rw [e]
    generalize sortU (behindM es row s) = t
    by_cases hm : t ∈ rows
    · have hi := List.idxOf_lt_length_of_mem hm
      rw [if_pos hm, if_pos hm]
      dsimp only
      rw [if_neg (by omega), nextR_eq p bs rows _ hl' hf' hr]
      cases nextM es row rows p with
      | error e => rfl
      | ok y => obtain ⟨l, r⟩ := y; simp [addAcc]
    · rw [if_neg hm, if_neg hm]
      by_cases h1 : 1024 ≤ rows.length
      · rw [if_pos h1]
        by_cases h4 : 4096 ≤ rows.length
        · rw [if_pos h4]; rfl
        · rw [if_neg h4]
          dsimp only
          rw [if_pos h1]; rfl
      · rw [if_neg h1, if_neg (show ¬ 4096 ≤ rows.length by omega)]
        dsimp only
        rw [if_neg h1, nextR_eq p bs _ _ hl' hf' (by simp; omega)]
        cases nextM es row (rows ++ [t]) p with
        | error e => rfl
        | ok y => obtain ⟨l, r⟩ := y; simp [addAcc]
/-- the reference's sort: each one put where it belongs -/
theorem insU_mid (x : Int) : ∀ (a b : List Int), (∀ y ∈ a, y < x) → (∀ y, b.head? = some y → x < y) → insU x (a ++ b) = a ++ x :: b
  | [], [], _, _ => rfl
  | [], y :: b, _, h => by
    have := h y rfl
    rw [List.nil_append, insU, if_pos this, List.nil_append]
  | z :: a, b, h, h2 => by
    have := h z (by simp)
    rw [List.cons_append, insU, if_neg (by omega), if_neg (by omega), insU_mid x a b (fun y hy => h y (by simp [hy])) h2]
    rfl
theorem insU_there (x : Int) : ∀ (a b : List Int), (∀ y ∈ a, y < x) → insU x (a ++ x :: b) = a ++ x :: b
  | [], b, _ => by rw [List.nil_append, insU, if_neg (by omega), if_pos rfl]
  | z :: a, b, h => by
    have := h z (by simp)
    rw [List.cons_append, insU, if_neg (by omega), if_neg (by omega), insU_there x a b (fun y hy => h y (by simp [hy]))]
def sortL (acc : List Int) (l : List Int) : List Int := l.foldl (fun a x => insU x a) acc
theorem sortL_mem : ∀ (l acc : List Int) (y : Int), y ∈ sortL acc l ↔ y ∈ acc ∨ y ∈ l
  | [], acc, y => by simp [sortL]
  | x :: l, acc, y => by
    show y ∈ sortL (insU x acc) l ↔ _
    rw [sortL_mem l, mem_insU, List.mem_cons]
    constructor
    · rintro ((h | h) | h)
      · exact .inr (.inl h)
      · exact .inl h
      · exact .inr (.inr h)
    · rintro (h | h | h)
      · exact .inl (.inr h)
      · exact .inl (.inl h)
      · exact .inr h
theorem sortL_up : ∀ (l acc : List Int), acc.Pairwise (· < ·) → (sortL acc l).Pairwise (· < ·)
  | [], _, h => h
  | x :: l, acc, h => sortL_up l _ (up_insU x acc h)
theorem sortL_eq (l : List Int) : sortL [] l = sortU l := up_one (sortL_up l [] List.Pairwise.nil) (up_sortU l) fun x => by rw [sortL_mem, mem_sortU]; simp
end Go.Proofs.YtfjomnhdmkbkiaaDoor.Im

namespace Go.Proofs.YtfjomnhdmkbkiaaDoor.Im
open Go.RowKit Go.Lib Go.Maps

theorem bool_eq' {a b : Bool} (h : a = b) : Ending.returned (.bool a) = .returned (.bool b) := by rw [h]
set_option maxRecDepth 100000 in
set_option maxHeartbeats 4000000 in
theorem inR_any {F : Nat → Prop} {w : World} {v : Value} {l : List Int} (hl : IntsIn F w v l) (s : Int) :
    Calls Tryd.prog 54 #[.int .i64 s, v] w fun e w' => e = .returned (.bool (decide (s ∈ l))) ∧ w' = w := by
  have HL := hid hl
  obtain ⟨ad, cp, rfl, hm, _⟩ := hl
  unfold maxLen at hm
  go_enter Tryd.func54, Tryd.ntmps54
  go_wp2
  go_loop [5] (fun i => ∃ k : Nat, k ≤ l.length ∧ i = .int .i64 k ∧ Hid (s ∉ l.take k)) (fun i => l.length - (intOf i).toNat)
  case atStart => exact ⟨0, Nat.zero_le _, rfl, hid (by simp)⟩
  case round =>
    obtain ⟨k, hk, rfl, hno⟩ := hrel
    by_cases hlt : k < l.length
    · obtain ⟨g, off, rfl, _, hx⟩ := ints_at HL.out hlt
      by_cases he : l[k] = s
      · have hyes := hid (show decide (s ∈ l) = true by rw [← he]; exact decide_eq_true (List.getElem_mem hlt))
        rw [he] at hx
        clear he
        go_wp2
        go_ret
        exact ⟨bool_eq' hyes.out.symm, rfl⟩
      · have hyes := hid (show s ∉ l.take (k + 1) by
          rw [take_succ' _ _ hlt, List.mem_append, List.mem_singleton]
          exact fun h => h.elim hno.out fun h => he h.symm)
        have he' : ¬ l[k] = s := he
        clear he
        go_wp2
        go_round
        case rel => exact ⟨k + 1, by omega, by go_num, hyes⟩
        case measure => simp [intOf]; omega
    · obtain rfl : k = l.length := by omega
      have hyes := hid (show decide (s ∈ l) = false by have h := hno.out; rw [List.take_length] at h; exact decide_eq_false h)
      clear hno
      go_wp2
      go_ret
      exact ⟨bool_eq' hyes.out.symm, rfl⟩
/-- what the reference's Firsts hands back -/
def FirstsPost (w : World) (fs : List Nat) (e : Ending) (w' : World) : Prop :=
  Below w.heap.size w w' ∧ ∃ ad cap, e = .returned (.slice ad fs.length cap) ∧ w'.ownsRow w.heap.size 3 1 (.slice ad fs.length cap) fs.length (fs.map fun (x : Nat) => iV (x : Int))
theorem numsOf_len (c : Nat → Nat) : (numsOf c).length = 256 := by unfold numsOf; simp
theorem numsOf_get (c : Nat → Nat) {k : Nat} (h : k < (numsOf c).length) : (numsOf c)[k] = (c k : Int) := by
  have h' : (numsOf c)[k]? = some (c k : Int) := by
    rw [numsOf_len] at h
    unfold numsOf
    rw [List.getElem?_map, List.getElem?_range' (by omega)]
    simp
  rw [List.getElem?_eq_getElem h] at h'
  exact Option.some.inj h'
abbrev natV (l : List Nat) : List Value := l.map fun (x : Nat) => iV (x : Int)
theorem take_next {fs : List Nat} {n b : Nat} (h : fs[n]? = some b) : natV (fs.take (n + 1)) = natV (fs.take n) ++ [iV (b : Int)] := by
  obtain ⟨hn, rfl⟩ := List.getElem?_eq_some_iff.1 h
  show (fs.take (n + 1)).map _ = (fs.take n).map _ ++ _
  rw [take_succ' _ _ hn, List.map_append]
  rfl
set_option maxRecDepth 100000 in
set_option maxHeartbeats 4000000 in
theorem firstsR_any {F : Nat → Prop} {w : World} {v : Value} {L : List Se} {fs : List Nat} {c : Nat → Nat} (hl : IntsIn F w v (numsOf c)) (hF : ∀ g, F g → g < w.heap.size) (hc : ClsLaw L fs c) (hlast : ∀ n, ClsN fs 256 n → n = fs.length) :
    Calls Tryd.prog 51 #[v] w (FirstsPost w fs) := by
  have HL := hid hl
  have HF := hid hF
  have HC := hid hc
  have HLAST := hid hlast
  have hmost := hc.most
  have h256 := numsOf_len c
  obtain ⟨ad, cp, rfl, _, _⟩ := hl
  obtain ⟨i0, hi, hz0, hz1, hz2⟩ := info_parts infoI
  have HI := hid hi
  have HZ := hid (And.intro hz0 (And.intro hz1 hz2))
  obtain ⟨m, hm⟩ : ∃ m, m = (numsOf c).length := ⟨_, rfl⟩
  have HM := hid hm
  have hm1 : m ≤ 256 := by omega
  have hm2 : 256 ≤ m := by omega
  rw [← hm]
  clear hi hz0 hz1 hz2 hF hc hlast h256 hm
  go_enter Tryd.func51, Tryd.ntmps51
  go_wp2
  go_loopw [3, 4] (fun p vb wr => ∃ (k n : Nat), k ≤ m ∧ vb = .int .i64 k ∧ n ≤ fs.length ∧ wr.ownsRow w.heap.size 3 1 p n (natV (fs.take n)) ∧ Hid (ClsN fs k n) ∧ Below w.heap.size w wr) (fun _ vb _ => m - (intOf vb).toNat)
  case atStart => exact ⟨0, 0, Nat.zero_le _, rfl, Nat.zero_le _, World.ownsRow_nil _ _ _ _, ClsN.start _, Below.refl _ _⟩
  case round =>
    obtain ⟨k, n, hk, rfl, hn, hown, hcn, hbel⟩ := hrel
    obtain ⟨adp, cpp, rfl⟩ := own_shape hown
    have HO := hid hown
    have HB := hid hbel
    have hsz := hbel.size
    clear hown hbel
    by_cases hlt : k < m
    · obtain ⟨hck, hc1, hc2⟩ := HC.out.step k (by omega) n hcn.out
      have hkl : k < (numsOf c).length := by rw [← HM.out]; exact hlt
      obtain ⟨g, off, rfl, _, hx⟩ := ints_at (HL.out.frame (F' := F) (w' := wr) (fun _ h => h) (fun q hq _ => HB.out.block q (HF.out q hq))) hkl
      rw [numsOf_get c hkl] at hx
      clear hkl
      by_cases he : c k = n
      · obtain ⟨hfn, hcn'⟩ := hc2 he
        rw [he] at hx
        have HFN := hid hfn
        have HCN := hid hcn'
        have hnl := (List.getElem?_eq_some_iff.1 hfn).1
        clear hc1 hc2 hcn he hfn hcn' hck
        go_wp2_with (at_builtin; refine wpList_append_own _ rfl _ _ 22 rfl w.heap.size 3 i0 (.int .i64 0) 1 8 Tryd.underlying22 HI.out HZ.out.1 HZ.out.2.1 HZ.out.2.2 rfl (by decide) _ _ _ rfl (HO.out.alloc _) ⟨wr.heap.size, 0, none⟩ 1 1 [iV (k : Int)] rfl rfl (one_at (heap_alloc_new _ _)) (one_cell_one rfl) (by unfold maxLen; omega) (by omega) (by simp; omega) ?_; intro v' w4 hown4 hgrow4 _; have HG4 := hid hgrow4; have HO4 := hid hown4; clear hown4 hgrow4)
        have hb4 : Below w.heap.size w w4 := (HB.out.alloc hsz _).grown HG4.out (by simp; omega) (fun q hq => (HO.out.lt q hq).1)
        go_roundw
        case rel => exact ⟨k + 1, n + 1, by omega, by go_num, hnl, by rw [take_next HFN.out]; exact HO4.out, HCN, hb4⟩
        case measure => simp [intOf]; omega
      · have HCN := hid (hc1 (by omega))
        generalize c k = q at *
        have he' : ((q : Int) == (n : Int)) = false := by simp; omega
        clear hc1 hc2 hcn he hck
        go_wp2_with fail
        go_roundw
        case rel => exact ⟨k + 1, n, by omega, by go_num, hn, HO.out, HCN, HB.out⟩
        case measure => simp [intOf]; omega
    · obtain rfl : k = m := by omega
      have hne := HLAST.out n (by have h := hcn.out; rw [show k = 256 by omega] at h; exact h)
      have HO2 := hid (show wr.ownsRow w.heap.size 3 1 (.slice adp fs.length cpp) fs.length (natV fs) by
        have h := HO.out; rw [hne, List.take_length] at h; exact h)
      subst hne
      go_wp2_with fail
      go_ret
      exact ⟨HB.out, adp, cpp, rfl, HO2.out⟩
theorem own_form {w : World} {base e n : Nat} {v : Value} {xs : List Value} (h : w.ownsRow base e 1 v n xs) (hn : 0 < n) : ∃ g cap, v = .slice (some ⟨g, 0, none⟩) n cap := by
  obtain ⟨g, cap, rfl, _⟩ := h.form hn
  exact ⟨g, cap, rfl⟩
theorem eqSe (s t : Se) (w : World) : (Op.equalIn 10000 65 s.v t.v).run Tryd.prog w = .ok (decide (s = t)) w := by
  obtain ⟨a, b, c, d⟩ := s
  obtain ⟨a', b', c', d'⟩ := t
  rw [eqSet]
  congr 1
  rw [Bool.eq_iff_iff]
  simp [and_assoc]
end Go.Proofs.YtfjomnhdmkbkiaaDoor.Im

namespace Go.Proofs.YtfjomnhdmkbkiaaDoor.Im
open Go.RowKit Go.Lib

set_option maxRecDepth 100000 in
set_option maxHeartbeats 4000000 in
theorem alikeR_any {F : Nat → Prop} {w : World} {v : Value} {l : List Se} (hl : SetsIn F w v l) (hF : ∀ g, F g → g < w.heap.size) (hok : ∀ s ∈ l, s.ok) (m n : Int) (a b : Nat) (hma : m = a) (hnb : n = b) (ha : a < 256) (hb : b < 256) :
    Calls Tryd.prog 91 #[v, .int .i64 m, .int .i64 n] w fun e w' => e = .returned (.bool (alikeM l a b)) ∧ Below w.heap.size w w' := by
  have HL := hid hl
  have HF := hid hF
  have HOK := hid hok
  obtain ⟨ad, cp, rfl, hm, _⟩ := hl
  unfold maxLen at hm
  clear hF hok
  go_enter Tryd.func91, Tryd.ntmps91
  go_wp2_with fail
  go_loopw [7] (fun i wr => ∃ k : Nat, k ≤ l.length ∧ i = .int .i64 k ∧ Hid ((l.take k).all (fun s => hasS s a == hasS s b) = true) ∧ Below w.heap.size w wr) (fun i _ => l.length - (intOf i).toNat)
  case atStart => exact ⟨0, Nat.zero_le _, rfl, hid (by simp), Below.refl _ _⟩
  case round =>
    obtain ⟨k, hk, rfl, hall, hbel⟩ := hrel
    have HB := hid hbel
    by_cases hlt : k < l.length
    · have hsz := hbel.size
      clear hbel
      obtain ⟨g, off, rfl, hFg, x0, x1, x2, x3⟩ := (SetsIn.frame HL.out (w' := wr) (F' := F) (fun _ h => h) (fun q hq _ => HB.out.block q (HF.out q hq))).at' hlt
      have hgl := HF.out g hFg
      have HSO := hid (HOK.out l[k] (List.getElem_mem hlt))
      have HYES := hid (fun (h : (hasS l[k] a == hasS l[k] b) = true) => all_snoc hlt hall.out h)
      have HNO := hid (fun (h : (hasS l[k] a == hasS l[k] b) = false) => (show alikeM l a b = false from all_not (List.getElem_mem hlt) h))
      generalize l[k] = s at *
      have KS := hid (fun (W : World) (h : Below wr.heap.size wr W) => (show W.cell? ⟨g, off + k * 4, none⟩ = some (.int .u64 s.a) ∧ W.cell? ⟨g, off + k * 4 + 1, none⟩ = some (.int .u64 s.b) ∧ W.cell? ⟨g, off + k * 4 + 2, none⟩ = some (.int .u64 s.c) ∧ W.cell? ⟨g, off + k * 4 + 3, none⟩ = some (.int .u64 s.d) from
        ⟨(h.cell (by show g < wr.heap.size; omega)).trans x0, (h.cell (by show g < wr.heap.size; omega)).trans x1, (h.cell (by show g < wr.heap.size; omega)).trans x2, (h.cell (by show g < wr.heap.size; omega)).trans x3⟩))
      have hxa := fun (W : World) => hasR_any s HSO.out m a hma ha W
      have hxb := fun (W : World) => hasR_any s HSO.out n b hnb hb W
      generalize hasS s a = xa at *
      generalize hasS s b = xb at *
      have HXA := hid hxa
      have HXB := hid hxb
      clear ha hb hma hnb hgl hxa hxb
      go_wp2_with fail
      have HTH := hid (fun (W W' : World) (h : Below wr.heap.size wr W) (h' : Below W.heap.size W W') => h.trans (h'.mono h.size))
      have HSS := hid (fun (W : World) (h : Below wr.heap.size wr W) => (show (fun W : World => W.cell? ⟨g, off + k * 4, none⟩ = some (.int .u64 s.a) ∧ W.cell? ⟨g, off + k * 4 + 1, none⟩ = some (.int .u64 s.b) ∧ W.cell? ⟨g, off + k * 4 + 2, none⟩ = some (.int .u64 s.c) ∧ W.cell? ⟨g, off + k * 4 + 3, none⟩ = some (.int .u64 s.d)) W from KS.out W h))
      have HCUR := hid (Below.refl wr.heap.size wr).drew
      have HS := hid (HSS.out _ HCUR.out)
      refine wp_region_held_drew (S := (fun W : World => W.cell? ⟨g, off + k * 4, none⟩ = some (.int .u64 s.a) ∧ W.cell? ⟨g, off + k * 4 + 1, none⟩ = some (.int .u64 s.b) ∧ W.cell? ⟨g, off + k * 4 + 2, none⟩ = some (.int .u64 s.c) ∧ W.cell? ⟨g, off + k * 4 + 3, none⟩ = some (.int .u64 s.d))) (by kernel_rfl) HS.out (fun _ => ?_)
      refine wpAnyH_take (i := 0) (v := .slice (some ⟨g, off, none⟩) l.length cp) rfl (by kernel_rfl) (by kernel_rfl) (by kernel_rfl) (fun _ _ _ h => h) (Or.inl ⟨by rfl, fun w hS => by go_simp⟩) HS.out ?_
      simp only [Act.put, List.getElem_toArray, List.getElem_cons_zero, List.setIfInBounds_toArray, List.set_cons_zero, List.set_cons_succ]
      refine wpAnyH_take (i := 1) (v := .int .i64 k) rfl (by kernel_rfl) (by kernel_rfl) (by kernel_rfl) (fun _ _ _ h => h) (Or.inl ⟨by rfl, fun w hS => by go_simp⟩) HS.out ?_
      simp only [Act.put, List.getElem_toArray, List.getElem_cons_zero, List.getElem_cons_succ, List.setIfInBounds_toArray, List.set_cons_zero, List.set_cons_succ]
      refine wpAnyH_take (i := 2) (v := .pointer (some ⟨g, off + k * 4, none⟩)) rfl (by kernel_rfl) (by kernel_rfl) (by kernel_rfl) (fun _ _ _ h => h) (Or.inl ⟨by rfl, fun w hS => by go_simp⟩) HS.out ?_
      simp only [Act.put, List.getElem_toArray, List.getElem_cons_zero, List.getElem_cons_succ, List.setIfInBounds_toArray, List.set_cons_zero, List.set_cons_succ]
      refine wpAnyH_take (i := 3) (v := s.v) rfl (by kernel_rfl) (by kernel_rfl) (by kernel_rfl) (fun _ _ _ h => h) (Or.inl ⟨by rfl, fun w hS => by have k0 := hS.1; have k1 := hS.2.1; have k2 := hS.2.2.1; have k3 := hS.2.2.2; go_simp⟩) HS.out ?_
      simp only [Act.put, List.getElem_toArray, List.getElem_cons_zero, List.getElem_cons_succ, List.setIfInBounds_toArray, List.set_cons_zero, List.set_cons_succ]
      refine wpAnyH_take (i := 4) (v := .int .i64 m) rfl (by kernel_rfl) (by kernel_rfl) (by kernel_rfl) (fun _ _ _ h => h) (Or.inl ⟨by rfl, fun w hS => by go_simp⟩) HS.out ?_
      simp only [Act.put, List.getElem_toArray, List.getElem_cons_zero, List.getElem_cons_succ, List.setIfInBounds_toArray, List.set_cons_zero, List.set_cons_succ]
      refine wpAnyH_take (i := 6) (v := .slice (some ⟨g, off, none⟩) l.length cp) rfl (by kernel_rfl) (by kernel_rfl) (by kernel_rfl) (fun _ _ _ h => h) (Or.inl ⟨by rfl, fun w hS => by go_simp⟩) HS.out ?_
      simp only [Act.put, List.getElem_toArray, List.getElem_cons_zero, List.getElem_cons_succ, List.setIfInBounds_toArray, List.set_cons_zero, List.set_cons_succ]
      refine wpAnyH_take (i := 7) (v := .int .i64 k) rfl (by kernel_rfl) (by kernel_rfl) (by kernel_rfl) (fun _ _ _ h => h) (Or.inl ⟨by rfl, fun w hS => by go_simp⟩) HS.out ?_
      simp only [Act.put, List.getElem_toArray, List.getElem_cons_zero, List.getElem_cons_succ, List.setIfInBounds_toArray, List.set_cons_zero, List.set_cons_succ]
      refine wpAnyH_take (i := 8) (v := .pointer (some ⟨g, off + k * 4, none⟩)) rfl (by kernel_rfl) (by kernel_rfl) (by kernel_rfl) (fun _ _ _ h => h) (Or.inl ⟨by rfl, fun w hS => by go_simp⟩) HS.out ?_
      simp only [Act.put, List.getElem_toArray, List.getElem_cons_zero, List.getElem_cons_succ, List.setIfInBounds_toArray, List.set_cons_zero, List.set_cons_succ]
      refine wpAnyH_take (i := 9) (v := s.v) rfl (by kernel_rfl) (by kernel_rfl) (by kernel_rfl) (fun _ _ _ h => h) (Or.inl ⟨by rfl, fun w hS => by have k0 := hS.1; have k1 := hS.2.1; have k2 := hS.2.2.1; have k3 := hS.2.2.2; go_simp⟩) HS.out ?_
      simp only [Act.put, List.getElem_toArray, List.getElem_cons_zero, List.getElem_cons_succ, List.setIfInBounds_toArray, List.set_cons_zero, List.set_cons_succ]
      refine wpAnyH_take (i := 10) (v := .int .i64 n) rfl (by kernel_rfl) (by kernel_rfl) (by kernel_rfl) (fun _ _ _ h => h) (Or.inl ⟨by rfl, fun w hS => by go_simp⟩) HS.out ?_
      simp only [Act.put, List.getElem_toArray, List.getElem_cons_zero, List.getElem_cons_succ, List.setIfInBounds_toArray, List.set_cons_zero, List.set_cons_succ]
      refine wpAnyH_ready (rs := [5]) (by kernel_rfl) (by simp) (AllReadyH.cons rfl (fun K hK => ?_) AllReadyH.nil)
      go_simp
      refine (HXA.out _).mono ?_
      rintro e' wA ⟨rfl, hb'⟩
      have HCUR := hid (HTH.out _ _ HCUR.out hb')
      have HS := hid (HSS.out _ HCUR.out)
      refine hK.out _ _ HS.out (fun _ => ?_)
      clear hK K hb'
      refine wpAnyH_ready (rs := [11]) (by kernel_rfl) (by simp) (AllReadyH.cons rfl (fun K hK => ?_) AllReadyH.nil)
      go_simp
      refine (HXB.out _).mono ?_
      rintro e' wB ⟨rfl, hb'⟩
      have HCUR := hid (HTH.out _ _ HCUR.out hb')
      have HS := hid (HSS.out _ HCUR.out)
      refine hK.out _ _ HS.out (fun _ => ?_)
      clear hK K hb'
      refine wpAnyH_take (i := 12) (v := .bool (!(xa == xb))) rfl (by kernel_rfl) (by kernel_rfl) (by kernel_rfl) (fun _ _ _ h => h) (Or.inl ⟨by rfl, fun w hS => by go_simp⟩) HS.out ?_
      simp only [Act.put, List.getElem_toArray, List.getElem_cons_zero, List.getElem_cons_succ, List.setIfInBounds_toArray, List.set_cons_zero, List.set_cons_succ]
      refine wpAnyH_done (by kernel_rfl) ?_ _
      cases xa <;> cases xb
      all_goals go_wp2_with fail
      all_goals first
        | (go_ret; exact ⟨bool_eq (HNO.out rfl).symm, HB.out.trans (HCUR.out.mono HB.out.size)⟩)
        | go_roundw
      all_goals first
        | (case rel => exact ⟨k + 1, by omega, by go_num, hid (HYES.out rfl), HB.out.trans (HCUR.out.mono HB.out.size)⟩)
        | (case measure => simp [intOf]; omega)
    · obtain rfl : k = l.length := by omega
      have hyes := hid (show alikeM l a b = true by have := hall.out; rw [List.take_length] at this; exact this)
      clear hall
      go_wp2_with fail
      go_ret
      exact ⟨bool_eq hyes.out.symm, HB.out⟩
/-- the numbers so far -/
def numsTo (c : Nat → Nat) (k : Nat) : List Int := (List.range' 0 k).map (fun x => (c x : Int)) ++ List.replicate (256 - k) 0
theorem numsTo_len (c : Nat → Nat) {k : Nat} (h : k ≤ 256) : (numsTo c k).length = 256 := by unfold numsTo; simp; omega
theorem numsTo_step (c : Nat → Nat) {k : Nat} (h : k < 256) : (numsTo c k).set k (c k) = numsTo c (k + 1) := by
  unfold numsTo
  rw [List.set_append_right _ _ (by simp), List.length_map, List.length_range', Nat.sub_self, show 256 - k = (256 - (k + 1)) + 1 by omega, List.replicate_succ, List.set_cons_zero, List.range'_concat, List.map_append, List.append_assoc]
  simp
theorem numsTo_end (c : Nat → Nat) : numsTo c 256 = numsOf c := by unfold numsTo numsOf; simp
/-- what the reference's classes hands back -/
def NumsPost (w : World) (cl : List Int) (e : Ending) (w' : World) : Prop :=
  e = .returned (.slice (some ⟨w.heap.size, 0, none⟩) 256 256) ∧ ClsIn w' w.heap.size cl ∧ Below w.heap.size w w'
set_option maxRecDepth 100000 in
set_option maxHeartbeats 4000000 in
theorem classesR_any {F : Nat → Prop} {w : World} {v : Value} {l : List Se} {fs : List Nat} {c : Nat → Nat} (hl : SetsIn F w v l) (hF : ∀ g, F g → g < w.heap.size) (hok : ∀ s ∈ l, s.ok) (hc : ClsLaw l fs c) :
    Calls Tryd.prog 81 #[v] w (NumsPost w (numsOf c)) := by
  have HL := hid hl
  have HF := hid hF
  have HOK := hid hok
  have HC := hid hc
  have hmost := hc.most
  obtain ⟨ad, cp, rfl, hm, _⟩ := hl
  unfold maxLen at hm
  obtain ⟨i0, hi, hz0, hz1, hz2⟩ := info_parts infoI
  have HI := hid hi
  have HZ := hid (And.intro hz0 (And.intro hz1 hz2))
  clear hi hz0 hz1 hz2 hF hok hc
  go_enter Tryd.func81, Tryd.ntmps81
  go_upto_region 2 with (at_make; refine wpList_make_full _ rfl _ _ 22 rfl w.heap.size 3 i0 (.int .i64 0) 1 Tryd.underlying22 HI.out HZ.out.1 HZ.out.2.1 .i64 .i64 _ _ 256 rfl rfl rfl rfl (by rw [HZ.out.2.2]; decide) (by unfold maxLen; omega) (Nat.le_refl _) ?_; intro w1 hown1 hgrow1)
  have HO1 := hid (show ClsIn w1 w.heap.size (numsTo c 0) by
    have h := hown1
    rw [made_rep (.int .i64 0) 256 rfl] at h
    have e : ((numsTo c 0).map iV) = List.replicate 256 (.int .i64 0) := by unfold numsTo; simp
    unfold ClsIn; rw [e]; exact h)
  have HB1 := hid ((Below.refl _ w).grown hgrow1 (Nat.le_refl _) (fun q hq => by cases hq))
  clear hown1 hgrow1
  go_wp2_with fail
  go_loopw [4, 5] (fun p vb wr => ∃ (k n : Nat), k ≤ 256 ∧ vb = .int .i64 k ∧ n ≤ fs.length ∧ wr.ownsRow (w.heap.size + 1) 3 1 p n (natV (fs.take n)) ∧ Hid (ClsN fs k n) ∧ ClsIn wr w.heap.size (numsTo c k) ∧ Below w.heap.size w wr) (fun _ i _ => 256 - (intOf i).toNat)
  case atStart => exact ⟨0, 0, Nat.zero_le _, rfl, Nat.zero_le _, World.ownsRow_nil _ _ _ _, ClsN.start _, HO1.out, HB1.out⟩
  case round =>
    clear HO1 HB1
    obtain ⟨k, n, hk, rfl, hn, hown, hcn, hcls, hbel⟩ := hrel
    obtain ⟨adp, cpp, rfl⟩ := own_shape hown
    have HO := hid hown
    have HCL := hid hcls
    have HB := hid hbel
    clear hown hcls hbel
    by_cases hlt : k < 256
    · obtain ⟨hck, hc1, hc2⟩ := HC.out.step k hlt n hcn.out
      have HC1 := hid hc1
      have HC2 := hid hc2
      obtain ⟨wo, rfl⟩ : ∃ wo : World, wo = wr := ⟨_, rfl⟩
      have hltI : ((k : Nat) : Int) < 256 := by omega
      clear hc1 hc2
      go_wp2_with fail
      go_loopw [6, 7] (fun va vj wr => ∃ (j : Nat), j ≤ n ∧ vj = .int .i64 ((j : Int) - 1) ∧ va = .int .i64 (atM (c k) n j) ∧ Below wo.heap.size wo wr) (fun _ vj _ => (intOf vj + 1).toNat)
      case atStart => exact ⟨n, Nat.le_refl _, by go_num, by rw [atM_start], Below.refl _ _⟩
      case round =>
        obtain ⟨j, hj, rfl, rfl, hbj⟩ := hrel
        have HBJ := hid hbj
        clear hbj
        by_cases hj0 : 0 < j
        · obtain ⟨i, rfl⟩ : ∃ i, j = i + 1 := ⟨j - 1, by omega⟩
          have ei : ((i + 1 : Nat) : Int) - 1 = (i : Int) := by omega
          rw [ei]
          have hif : i < fs.length := by omega
          have hin : i < n := by omega
          obtain ⟨gq, cq, he⟩ := own_form HO.out (by omega)
          cases he
          have hcell := (own_later HO.out HBJ.out).cellAt i (by simpa using hin)
          rw [List.getElem?_map, List.getElem?_take, if_pos hin, List.getElem?_eq_getElem hif] at hcell
          have hcell : wr.cell? ⟨gq, i, none⟩ = some (.int .i64 (fs[i] : Nat)) := hcell
          have hal := HC.out.al k hlt i hif
          have hat := atM_step (c := c k) hin
          have hcall := alikeR_any (HL.out.frame (F' := F) (w' := wr) (fun _ h => h) (fun q hq _ => (HBJ.out.block q (Nat.lt_of_lt_of_le (HF.out q hq) HB.out.size)).trans (HB.out.block q (HF.out q hq)))) (fun q hq => Nat.lt_of_lt_of_le (HF.out q hq) (Nat.le_trans HB.out.size HBJ.out.size)) HOK.out ((fs[i] : Nat) : Int) (k : Int) fs[i] k rfl rfl (HC.out.lt i hif) hlt
          rw [hal] at hcall
          have hfi := HC.out.lt i hif
          generalize fs[i] = x at *
          by_cases hic : i = c k
          · rw [if_pos hic] at hat
            rw [decide_eq_true hic] at hcall
            have HAT := hid hat
            have HCALL := hid hcall
            clear hat hcall hal hic ei hck
            go_wp2_with (go_at_call 91; refine HCALL.out.mono ?_; rintro e w2 ⟨rfl, hb2⟩; have HB2 := hid hb2; clear hb2)
            go_roundw
            case rel => exact ⟨i, by omega, by go_num, by rw [HAT.out], HBJ.out.trans (HB2.out.mono HBJ.out.size)⟩
            case measure => simp [intOf]
          · rw [if_neg hic] at hat
            rw [decide_eq_false hic] at hcall
            have HAT := hid hat
            have HCALL := hid hcall
            clear hat hcall hal hic ei hck
            go_wp2_with (go_at_call 91; refine HCALL.out.mono ?_; rintro e w2 ⟨rfl, hb2⟩; have HB2 := hid hb2; clear hb2)
            go_roundw
            case rel => exact ⟨i, by omega, by go_num, by rw [HAT.out], HBJ.out.trans (HB2.out.mono HBJ.out.size)⟩
            case measure => simp [intOf]
        · obtain rfl : j = 0 := by omega
          rw [atM_end hck, show ((0 : Nat) : Int) - 1 = -1 from rfl]
          have HOJ := hid (own_later HO.out HBJ.out)
          have HCJ := hid (show ClsIn wr w.heap.size (numsTo c k) from own_later HCL.out HBJ.out)
          have HBB := hid (HB.out.trans (HBJ.out.mono HB.out.size))
          have hsz := HBB.out.size
          have hlt0 := (own_lt HCJ.out (g := w.heap.size) rfl).2
          obtain ⟨y, hy⟩ := own_cell HCJ.out hlt
          have hf := own_free (i := k) HCJ.out
          have HST := hid (numsTo_step c hlt)
          have HGR := hid (fun (W : World) (h : ClsIn W w.heap.size (numsTo c k)) => (show ClsIn (W.setCell ⟨w.heap.size, k, none⟩ (iV (c k : Nat))) w.heap.size (numsTo c (k + 1)) by
            have := own_store (i := k) (iV (c k : Nat)) h
            rw [← List.map_set, HST.out] at this
            exact this))
          clear HO HCL HBJ HB
          by_cases hcn' : c k = n
          · obtain ⟨hf1, hf2⟩ := HC2.out hcn'
            have HF1 := hid hf1
            have HF2 := hid hf2
            have hnl := (List.getElem?_eq_some_iff.1 hf1).1
            rw [hcn'] at HGR ⊢
            clear hf1 hf2 hcn' hck
            go_upto_region 14 with (at_builtin; refine wpList_append_own _ rfl _ _ 22 rfl (w.heap.size + 1) 3 i0 (.int .i64 0) 1 8 Tryd.underlying22 HI.out HZ.out.1 HZ.out.2.1 HZ.out.2.2 rfl (by decide) _ _ _ rfl (HOJ.out.alloc _) ⟨wr.heap.size, 0, none⟩ 1 1 [iV (k : Int)] rfl rfl (one_at (heap_alloc_new _ _)) (one_cell_one rfl) (by unfold maxLen; omega) (by omega) (by simp; omega) ?_; intro v' w4 hown4 hgrow4 _; have HG4 := hid hgrow4; have HO4 := hid hown4; clear hown4 hgrow4)
            have hg4 := show World.grownBy (wr.alloc (.cells #[.int .i64 (k : Int)] 3)) w4 (Value.slice adp n cpp).ownBlock from HG4.out
            have HB4 := hid (show Below w.heap.size w w4 from (HBB.out.alloc hsz _).grown hg4 (by simp; omega) (fun q hq => by have := (HOJ.out.lt q hq).1; omega))
            have HCW := hid (show ClsIn w4 w.heap.size (numsTo c k) from own_blk HCJ.out fun q hq => by
              cases hq
              have hl := (own_lt HCJ.out (g := w.heap.size) rfl).2
              exact (hg4.block _ (by simp; omega) (fun e => by have := (HOJ.out.lt _ e.symm).1; simp at this; omega)).trans (alloc_old hl))
            clear HG4 hg4
            obtain ⟨y4, hy4⟩ := own_cell HCW.out hlt
            have hf4 := own_free (i := k) HCW.out
            go_wp2_with fail
            go_roundw
            case rel => exact ⟨k + 1, n + 1, by omega, by go_num, by omega, own_blk (by rw [take_next HF1.out]; exact HO4.out) (fun q hq => heap_setCell_other _ _ _ _ (by have := (HO4.out.lt q hq).1; simp; omega)), HF2, HGR.out _ HCW.out, HB4.out.setCell (Nat.le_refl _) _⟩
            case measure => simp [intOf]; omega
          · have HC1' := hid (HC1.out (by omega))
            have hne : (((c k : Nat) : Int) == (n : Int)) = false := by simp; omega
            generalize c k = ck at *
            clear hcn' hck
            go_wp2_with fail
            go_roundw
            case rel => exact ⟨k + 1, n, by omega, by go_num, hn, own_blk HOJ.out (fun q hq => heap_setCell_other _ _ _ _ (by have := (HOJ.out.lt q hq).1; simp; omega)), HC1', HGR.out _ HCJ.out, HBB.out.setCell (Nat.le_refl _) _⟩
            case measure => simp [intOf]; omega
    · obtain rfl : k = 256 := by omega
      go_wp2_with fail
      go_ret
      exact ⟨rfl, by rw [← numsTo_end]; exact HCL.out, HB.out⟩
end Go.Proofs.YtfjomnhdmkbkiaaDoor.Im

namespace Go.Proofs.YtfjomnhdmkbkiaaDoor.Im
open Go.RowKit Go.Lib Go.Maps

/-- what a function hands back that makes a row of numbers -/
def IntsPost (w : World) (l : List Int) (e : Ending) (w' : World) : Prop :=
  ∃ v, e = .returned v ∧ w'.ownsRow w.heap.size 3 1 v l.length (l.map iV) ∧ Below w.heap.size w w'
theorem own_news {w : World} {base e g n cap : Nat} {xs : List Value} (h : w.ownsRow base e 1 (.slice (some ⟨g, 0, none⟩) n cap) n xs) {i m o : Nat} (hm : i + m ≤ n) (hio : m = 0 ∨ o = i) :
    ∀ j u, ((xs.drop i).take m)[j]? = some u → w.cell? ((⟨g, o, none⟩ : Addr).add j) = some u := by
  intro j u hu
  have hxl := h.1
  rcases hio with rfl | rfl
  · simp at hu
  · rw [List.getElem?_take] at hu
    split at hu
    · rename_i hj
      rw [List.getElem?_drop] at hu
      rw [Addr.add_lit, h.cellAt (o + j) (by omega), hu]
    · cases hu
theorem own_cap {w : World} {base e n : Nat} {a : Option Addr} {cap : Nat} {xs : List Value} (h : w.ownsRow base e 1 (.slice a n cap) n xs) : n ≤ cap ∧ cap ≤ maxLen := by
  rcases h.2 with ⟨h', h0⟩ | ⟨g', cap', cur, h', hb, hg, hn, hc, hs, ht⟩
  · cases h'; exact ⟨Nat.le_refl _, Nat.zero_le _⟩
  · cases h'; exact ⟨hn, hc⟩
theorem int_one (l : List Int) : ∀ u ∈ l.map iV, u.oneCell' = true := by
  intro u hu
  obtain ⟨x, _, rfl⟩ := List.mem_map.1 hu
  rfl
set_option maxRecDepth 100000 in
set_option maxHeartbeats 8000000 in
theorem sortR_any {F : Nat → Prop} {w : World} {v : Value} {l : List Int} (hl : IntsIn F w v l) (hF : ∀ g, F g → g < w.heap.size) (hlen : l.length ≤ 100000) :
    Calls Tryd.prog 84 #[v] w (IntsPost w (sortU l)) := by
  have HL := hid hl
  have HF := hid hF
  obtain ⟨ad, cp, rfl, _, _⟩ := hl
  obtain ⟨i0, hi, hz0, hz1, hz2⟩ := info_parts infoI
  have HI := hid hi
  have HZ := hid (And.intro hz0 (And.intro hz1 hz2))
  clear hi hz0 hz1 hz2 hF
  go_enter Tryd.func84, Tryd.ntmps84
  go_wp2
  go_loopw [3, 4] (fun p vi wr => ∃ (k : Nat) (out : List Int), k ≤ l.length ∧ vi = .int .i64 k ∧ out.length ≤ k ∧ wr.ownsRow w.heap.size 3 1 p out.length (out.map iV) ∧ Hid (out = [] → p = .slice none 0 0) ∧ Hid (out = sortL [] (l.take k)) ∧ Below w.heap.size w wr) (fun _ vi _ => l.length - (intOf vi).toNat)
  case atStart => exact ⟨0, [], Nat.zero_le _, rfl, Nat.le_refl _, World.ownsRow_nil _ _ _ _, hid (fun _ => rfl), hid rfl, Below.refl _ _⟩
  case round =>
    obtain ⟨k, out, hk, rfl, hol, hown, hnil, hout, hbel⟩ := hrel
    have HO := hid hown
    have HB := hid hbel
    have hsz := hbel.size
    clear hbel
    by_cases hlt : k < l.length
    · obtain ⟨g, off, rfl, hFg, hx⟩ := ints_at (HL.out.frame (F' := F) (w' := wr) (fun _ h => h) (fun q hq _ => HB.out.block q (HF.out q hq))) hlt
      have hgl := HF.out g hFg
      have HN := hid (show sortL [] (l.take (k + 1)) = insU l[k] out by rw [take_succ' _ _ hlt, hout.out]; unfold sortL; rw [List.foldl_append]; rfl)
      have hup := sortL_up (l.take k) [] List.Pairwise.nil
      rw [← hout.out] at hup
      have HUP := hid hup
      generalize hxe : l[k] = x at *
      clear hxe hout hup
      by_cases hn : out = []
      · subst hn
        obtain rfl := hnil.out rfl
        have hgw : g < wr.heap.size := by omega
        go_wp2_with fail
        refine wp_loop_rounds 1 ?_
        rw [rounds_succ]
        go_wp2_with fail
        go_quiet (fail)
        go_wp2_with fail
        go_quiet (fail)
        go_upto_region 11 with fail
        go_upto_region 12 with (at_builtin; refine wpList_append_own _ rfl _ _ 22 rfl wr.heap.size 3 i0 (.int .i64 0) 1 8 Tryd.underlying22 HI.out HZ.out.1 HZ.out.2.1 HZ.out.2.2 rfl (by decide) _ _ _ rfl (World.ownsRow_nil _ _ _ _) ⟨wr.heap.size, 0, none⟩ 1 1 [iV x] rfl rfl (one_at (heap_alloc_new _ _)) ?hone ?h63 ?hby ?hba ?_)
        case hone => exact one_cell_one rfl
        case h63 => unfold maxLen; omega
        case hby => omega
        case hba => simp
        intro bv bw bo bg _
        have HBO := hid bo
        have hbgl : ∀ q, q < wr.heap.size → bw.heap[q]? = wr.heap[q]? := fun q hq => (bg.block q (by simp; omega) (by simp [Value.ownBlock])).trans (alloc_old hq)
        have HBB := hid (show Below wr.heap.size wr bw from ⟨bg.os, bg.tape, bg.output, by have := bg.size; simp at this; omega, hbgl⟩)
        obtain ⟨adb, cpb, rfl⟩ := own_shape bo
        clear bo bg hbgl
        go_wp2_with (at_builtin; refine wpList_append_own_none rfl _ _ 22 rfl wr.heap.size 3 i0 1 Tryd.underlying22 HI.out _ _ _ rfl HBO.out rfl ?_)
        have HROW := hid (show bw.ownsRow w.heap.size 3 1 (.slice adb (0 + 1) cpb) [x].length ([x].map iV) from own_mono HBO.out hsz)
        refine And.intro ?_ ?_
        · exact ⟨k + 1, [x], by omega, by go_num, by simp, HROW.out, hid (fun h => by cases h), hid (by rw [HN.out]; rfl), HB.out.trans (HBB.out.mono HB.out.size)⟩
        · simp [intOf]; omega
      · have hpos : 0 < out.length := List.length_pos_iff.2 hn
        obtain ⟨gp, cpp, rfl⟩ := own_form hown hpos
        obtain ⟨hcap1, hcap2⟩ := own_cap hown
        unfold maxLen at hcap2
        clear hown hnil hn
        obtain ⟨wo, rfl⟩ : ∃ wo : World, wo = wr := ⟨_, rfl⟩
        have hgw : g < wo.heap.size := by omega
        go_wp2_with fail
        go_loopw [5] (fun vj wr => ∃ j : Nat, j ≤ out.length ∧ vj = .int .i64 j ∧ Hid (∀ y ∈ out.take j, y < x) ∧ Below wo.heap.size wo wr) (fun vj _ => out.length - (intOf vj).toNat)
        case atStart => exact ⟨0, Nat.zero_le _, rfl, hid (by simp), Below.refl _ _⟩
        case round =>
          obtain ⟨j, hj, rfl, hlow, hbj⟩ := hrel
          have HBJ := hid hbj
          have HOJ := hid (own_later HO.out hbj)
          have hxj := (hbj.cell hgw).trans hx
          clear hbj
          by_cases hjl : j < out.length
          · have hcj := HOJ.out.cellAt j (by simpa using hjl)
            rw [List.getElem?_map, List.getElem?_eq_getElem hjl] at hcj
            have hcj : wr.cell? ⟨gp, j, none⟩ = some (.int .i64 out[j]) := hcj
            by_cases hyx : out[j] < x
            · have HLOW := hid (show ∀ y ∈ out.take (j + 1), y < x by
                intro y hy
                rw [take_succ' _ _ hjl, List.mem_append, List.mem_singleton] at hy
                rcases hy with hy | rfl
                · exact hlow.out y hy
                · exact hyx)
              generalize out[j] = y at *
              go_wp2_with fail
              go_quiet (fail)
              go_wp2_with fail
              go_roundw
              case rel => exact ⟨j + 1, by omega, by go_num, HLOW, below_drewN HBJ.out _⟩
              case measure => simp [intOf]; omega
            · by_cases hyx2 : out[j] = x
              · have HINS := hid (show insU x out = out by
                  have e : out = out.take j ++ x :: out.drop (j + 1) := by
                    rw [← hyx2, ← List.drop_eq_getElem_cons hjl, List.take_append_drop]
                  have h := insU_there x (out.take j) (out.drop (j + 1)) hlow.out
                  rw [← e] at h
                  exact h)
                have hyl : ¬ out[j] < x := hyx
                generalize out[j] = y at *
                subst hyx2
                clear hyx
                go_wp2_with fail
                go_quiet (fail)
                go_wp2_with fail
                go_quiet (fail)
                go_wp2_with fail
                refine And.intro ?_ ?_
                · exact ⟨k + 1, out, by omega, by go_num, by omega, own_later HOJ.out (below_drewN (Below.refl _ _) _), hid (fun h => by rw [h] at hpos; cases hpos), hid (by rw [HN.out, HINS.out]), HB.out.trans ((below_drewN HBJ.out _).mono HB.out.size)⟩
                · simp [intOf]; omega
              · have hins : insU x out = out.take j ++ x :: out.drop j := by
                  have h := insU_mid x (out.take j) (out.drop j) hlow.out (fun y hy => by
                    rw [List.drop_eq_getElem_cons hjl] at hy
                    cases hy
                    omega)
                  rw [List.take_append_drop] at h
                  exact h
                have HINS := hid hins
                have hyl : ¬ out[j] < x := hyx
                have hyn : (out[j] == x) = false := by simp; exact hyx2
                generalize out[j] = y at *
                have hzz : w.heap.size ≤ wr.heap.size := Nat.le_trans HB.out.size HBJ.out.size
                have hgr : g < wr.heap.size := Nat.lt_of_lt_of_le hgw HBJ.out.size
                clear hins hyx hyx2
                go_wp2_with fail
                go_quiet (fail)
                go_wp2_with fail
                go_quiet (fail)
                go_upto_region 10 with fail
                go_upto_region 11 with (at_builtin; refine wpList_append_own _ rfl _ _ 22 rfl wr.heap.size 3 i0 (.int .i64 0) 1 8 Tryd.underlying22 HI.out HZ.out.1 HZ.out.2.1 HZ.out.2.2 rfl (by decide) _ _ _ rfl (World.ownsRow_nil _ _ _ _) ⟨gp, 0, none⟩ (j) _ ((out.take (j)).map iV) rfl ?hl (by have h := own_news HOJ.out (i := 0) (m := j) (o := 0) (by omega) (.inr rfl); rw [List.drop_zero, ← List.map_take] at h; exact h) ?hone ?h63 ?hby ?hba ?_)
                case hl => simp; try omega
                case hone => exact int_one _
                case h63 => unfold maxLen; omega
                case hby => omega
                case hba => simp; try omega
                intro av aw ao ag _
                have HAO := hid ao
                have hagl : ∀ q, q < wr.heap.size → aw.heap[q]? = wr.heap[q]? := fun q hq => ag.block q (by simpa using hq) (by simp [Value.ownBlock])
                have HAB := hid hagl
                have HBA := hid (show Below wr.heap.size wr aw from ⟨ag.os, ag.tape, ag.output, by have := ag.size; simpa using this, hagl⟩)
                have hxa : aw.cell? ⟨g, off + k, none⟩ = some (.int .i64 x) := (HBA.out.cell (by show g < wr.heap.size; omega)).trans hxj
                have hza := HBA.out.size
                obtain ⟨ada, cpa, rfl⟩ := own_shape ao
                clear ao ag hagl
                go_upto_region 12 with (at_builtin; refine wpList_append_own _ rfl _ _ 22 rfl wr.heap.size 3 i0 (.int .i64 0) 1 8 Tryd.underlying22 HI.out HZ.out.1 HZ.out.2.1 HZ.out.2.2 rfl (by decide) _ _ _ rfl (HAO.out.alloc _) ⟨aw.heap.size, 0, none⟩ 1 1 [iV x] rfl ?hl (one_at (heap_alloc_new _ _)) ?hone ?h63 ?hby ?hba ?_)
                case hl => rfl
                case hone => exact one_cell_one rfl
                case h63 => unfold maxLen; omega
                case hby => omega
                case hba => simp; omega
                intro bv bw bo bg _
                have HBO := hid bo
                have hbgl : ∀ q, q < wr.heap.size → bw.heap[q]? = wr.heap[q]? := fun q hq => (bg.block q (by simp; omega) (fun e => by have := (HAO.out.lt q e.symm).1; omega)).trans ((alloc_old (by omega)).trans (HAB.out q hq))
                have HBB := hid (show Below wr.heap.size wr bw from ⟨bg.os.trans HBA.out.os, bg.tape.trans HBA.out.tape, bg.output.trans HBA.out.output, by have := bg.size; simp at this; omega, hbgl⟩)
                have hzb := HBB.out.size
                have HOB := hid (own_later HOJ.out HBB.out)
                obtain ⟨adb, cpb, rfl⟩ := own_shape bo
                clear bo bg hbgl hxa
                go_upto_region 13 with (at_builtin; refine wpList_append_own _ rfl _ _ 22 rfl wr.heap.size 3 i0 (.int .i64 0) 1 8 Tryd.underlying22 HI.out HZ.out.1 HZ.out.2.1 HZ.out.2.2 rfl (by decide) _ _ _ rfl HBO.out ?ad (out.length - (j)) ?cc ((out.drop (j)).map iV) ?hx ?hl (?hnews) ?hone ?h63 ?hby ?hba ?_)
                case hx => rfl
                case hnews =>
                  have h := own_news HOB.out (i := j) (m := out.length - (j)) (o := j) (by omega) (.inr rfl)
                  rw [← List.map_drop, List.take_of_length_le (by simp; try omega)] at h
                  exact h
                case hl => simp; try omega
                case hone => exact int_one _
                case h63 => unfold maxLen; omega
                case hby => omega
                case hba => omega
                intro cv cw co cg _
                have HCO := hid co
                have hcgl : ∀ q, q < wr.heap.size → cw.heap[q]? = wr.heap[q]? := fun q hq => (cg.block q (by omega) (fun e => by have := (HBO.out.lt q e.symm).1; omega)).trans (HBB.out.block q hq)
                have HBC := hid (show Below wr.heap.size wr cw from ⟨cg.os.trans HBB.out.os, cg.tape.trans HBB.out.tape, cg.output.trans HBB.out.output, by have := cg.size; omega, hcgl⟩)
                have HLEN := hid (show (insU x out).length = j + 1 + (out.length - j) by rw [HINS.out]; simp; omega)
                have HROW := hid (show cw.ownsRow w.heap.size 3 1 cv (insU x out).length ((insU x out).map iV) by
                  rw [HLEN.out, HINS.out]
                  have h := own_mono HCO.out hzz
                  simpa using h)
                have hcs := HLEN.out
                clear co cg hcgl HBO HOB HBB HCO
                go_wp2_with fail
                refine And.intro ?_ ?_
                · exact ⟨k + 1, insU x out, by omega, by go_num, by rw [HLEN.out]; omega, HROW.out, hid (fun h => by rw [h] at hcs; simp at hcs <;> omega), hid HN.out.symm, HB.out.trans ((HBJ.out.trans (HBC.out.mono HBJ.out.size)).mono HB.out.size)⟩
                · simp [intOf]; omega
          · obtain ⟨hjn, hjn2⟩ : j = out.length ∧ ¬ j < out.length := ⟨by omega, hjl⟩
            have hins : insU x out = out.take j ++ x :: out.drop j := by
              have h := insU_mid x (out.take j) (out.drop j) hlow.out (fun y hy => by
                rw [List.drop_eq_nil_of_le (by omega)] at hy
                cases hy)
              rw [List.take_append_drop] at h
              exact h
            have HINS := hid hins
            have hzz : w.heap.size ≤ wr.heap.size := Nat.le_trans HB.out.size HBJ.out.size
            have hgr : g < wr.heap.size := Nat.lt_of_lt_of_le hgw HBJ.out.size
            have HJN := hid hjn
            have hjge : out.length ≤ j := by omega
            clear hins hjn hjl
            go_wp2_with fail
            go_quiet (fail)
            go_wp2_with fail
            go_quiet (fail)
            go_upto_region 10 with fail
            rcases Nat.lt_or_ge j cpp with hjc | hjc
            · go_upto_region 11 with (at_builtin; refine wpList_append_own _ rfl _ _ 22 rfl wr.heap.size 3 i0 (.int .i64 0) 1 8 Tryd.underlying22 HI.out HZ.out.1 HZ.out.2.1 HZ.out.2.2 rfl (by decide) _ _ _ rfl (World.ownsRow_nil _ _ _ _) ⟨gp, 0, none⟩ (j) _ ((out.take (j)).map iV) rfl ?hl (by have h := own_news HOJ.out (i := 0) (m := j) (o := 0) (by omega) (.inr rfl); rw [List.drop_zero, ← List.map_take] at h; exact h) ?hone ?h63 ?hby ?hba ?_)
              case hl => simp; try omega
              case hone => exact int_one _
              case h63 => unfold maxLen; omega
              case hby => omega
              case hba => simp; try omega
              intro av aw ao ag _
              have HAO := hid ao
              have hagl : ∀ q, q < wr.heap.size → aw.heap[q]? = wr.heap[q]? := fun q hq => ag.block q (by simpa using hq) (by simp [Value.ownBlock])
              have HAB := hid hagl
              have HBA := hid (show Below wr.heap.size wr aw from ⟨ag.os, ag.tape, ag.output, by have := ag.size; simpa using this, hagl⟩)
              have hxa : aw.cell? ⟨g, off + k, none⟩ = some (.int .i64 x) := (HBA.out.cell (by show g < wr.heap.size; omega)).trans hxj
              have hza := HBA.out.size
              obtain ⟨ada, cpa, rfl⟩ := own_shape ao
              clear ao ag hagl
              go_upto_region 12 with (at_builtin; refine wpList_append_own _ rfl _ _ 22 rfl wr.heap.size 3 i0 (.int .i64 0) 1 8 Tryd.underlying22 HI.out HZ.out.1 HZ.out.2.1 HZ.out.2.2 rfl (by decide) _ _ _ rfl (HAO.out.alloc _) ⟨aw.heap.size, 0, none⟩ 1 1 [iV x] rfl ?hl (one_at (heap_alloc_new _ _)) ?hone ?h63 ?hby ?hba ?_)
              case hl => rfl
              case hone => exact one_cell_one rfl
              case h63 => unfold maxLen; omega
              case hby => omega
              case hba => simp; omega
              intro bv bw bo bg _
              have HBO := hid bo
              have hbgl : ∀ q, q < wr.heap.size → bw.heap[q]? = wr.heap[q]? := fun q hq => (bg.block q (by simp; omega) (fun e => by have := (HAO.out.lt q e.symm).1; omega)).trans ((alloc_old (by omega)).trans (HAB.out q hq))
              have HBB := hid (show Below wr.heap.size wr bw from ⟨bg.os.trans HBA.out.os, bg.tape.trans HBA.out.tape, bg.output.trans HBA.out.output, by have := bg.size; simp at this; omega, hbgl⟩)
              have hzb := HBB.out.size
              have HOB := hid (own_later HOJ.out HBB.out)
              obtain ⟨adb, cpb, rfl⟩ := own_shape bo
              clear bo bg hbgl hxa
              go_upto_region 13 with (at_builtin; refine wpList_append_own _ rfl _ _ 22 rfl wr.heap.size 3 i0 (.int .i64 0) 1 8 Tryd.underlying22 HI.out HZ.out.1 HZ.out.2.1 HZ.out.2.2 rfl (by decide) _ _ _ rfl HBO.out ?ad (0) ?cc ((out.drop (j)).map iV) ?hx ?hl (?hnews) ?hone ?h63 ?hby ?hba ?_)
              case hx => rfl
              case hnews =>
                have h := own_news HOB.out (i := j) (m := 0) (o := j) (by omega) (.inl rfl)
                rw [← List.map_drop, List.take_of_length_le (by simp; try omega)] at h
                exact h
              case hl => simp; try omega
              case hone => exact int_one _
              case h63 => unfold maxLen; omega
              case hby => omega
              case hba => omega
              intro cv cw co cg _
              have HCO := hid co
              have hcgl : ∀ q, q < wr.heap.size → cw.heap[q]? = wr.heap[q]? := fun q hq => (cg.block q (by omega) (fun e => by have := (HBO.out.lt q e.symm).1; omega)).trans (HBB.out.block q hq)
              have HBC := hid (show Below wr.heap.size wr cw from ⟨cg.os.trans HBB.out.os, cg.tape.trans HBB.out.tape, cg.output.trans HBB.out.output, by have := cg.size; omega, hcgl⟩)
              have HLEN := hid (show (insU x out).length = j + 1 by rw [HINS.out]; simp; omega)
              have HROW := hid (show cw.ownsRow w.heap.size 3 1 cv (insU x out).length ((insU x out).map iV) by
                rw [HLEN.out, HINS.out]
                have h := own_mono HCO.out hzz
                simpa using h)
              have hcs := HLEN.out
              clear co cg hcgl HBO HOB HBB HCO
              go_wp2_with fail
              refine And.intro ?_ ?_
              · exact ⟨k + 1, insU x out, by omega, by go_num, by rw [HLEN.out]; omega, HROW.out, hid (fun h => by rw [h] at hcs; simp at hcs <;> omega), hid HN.out.symm, HB.out.trans ((HBJ.out.trans (HBC.out.mono HBJ.out.size)).mono HB.out.size)⟩
              · simp [intOf]; omega
            · go_upto_region 11 with (at_builtin; refine wpList_append_own _ rfl _ _ 22 rfl wr.heap.size 3 i0 (.int .i64 0) 1 8 Tryd.underlying22 HI.out HZ.out.1 HZ.out.2.1 HZ.out.2.2 rfl (by decide) _ _ _ rfl (World.ownsRow_nil _ _ _ _) ⟨gp, 0, none⟩ (j) _ ((out.take (j)).map iV) rfl ?hl (by have h := own_news HOJ.out (i := 0) (m := j) (o := 0) (by omega) (.inr rfl); rw [List.drop_zero, ← List.map_take] at h; exact h) ?hone ?h63 ?hby ?hba ?_)
              case hl => simp; try omega
              case hone => exact int_one _
              case h63 => unfold maxLen; omega
              case hby => omega
              case hba => simp; try omega
              intro av aw ao ag _
              have HAO := hid ao
              have hagl : ∀ q, q < wr.heap.size → aw.heap[q]? = wr.heap[q]? := fun q hq => ag.block q (by simpa using hq) (by simp [Value.ownBlock])
              have HAB := hid hagl
              have HBA := hid (show Below wr.heap.size wr aw from ⟨ag.os, ag.tape, ag.output, by have := ag.size; simpa using this, hagl⟩)
              have hxa : aw.cell? ⟨g, off + k, none⟩ = some (.int .i64 x) := (HBA.out.cell (by show g < wr.heap.size; omega)).trans hxj
              have hza := HBA.out.size
              obtain ⟨ada, cpa, rfl⟩ := own_shape ao
              clear ao ag hagl
              go_upto_region 12 with (at_builtin; refine wpList_append_own _ rfl _ _ 22 rfl wr.heap.size 3 i0 (.int .i64 0) 1 8 Tryd.underlying22 HI.out HZ.out.1 HZ.out.2.1 HZ.out.2.2 rfl (by decide) _ _ _ rfl (HAO.out.alloc _) ⟨aw.heap.size, 0, none⟩ 1 1 [iV x] rfl ?hl (one_at (heap_alloc_new _ _)) ?hone ?h63 ?hby ?hba ?_)
              case hl => rfl
              case hone => exact one_cell_one rfl
              case h63 => unfold maxLen; omega
              case hby => omega
              case hba => simp; omega
              intro bv bw bo bg _
              have HBO := hid bo
              have hbgl : ∀ q, q < wr.heap.size → bw.heap[q]? = wr.heap[q]? := fun q hq => (bg.block q (by simp; omega) (fun e => by have := (HAO.out.lt q e.symm).1; omega)).trans ((alloc_old (by omega)).trans (HAB.out q hq))
              have HBB := hid (show Below wr.heap.size wr bw from ⟨bg.os.trans HBA.out.os, bg.tape.trans HBA.out.tape, bg.output.trans HBA.out.output, by have := bg.size; simp at this; omega, hbgl⟩)
              have hzb := HBB.out.size
              have HOB := hid (own_later HOJ.out HBB.out)
              obtain ⟨adb, cpb, rfl⟩ := own_shape bo
              clear bo bg hbgl hxa
              go_upto_region 13 with (at_builtin; refine wpList_append_own _ rfl _ _ 22 rfl wr.heap.size 3 i0 (.int .i64 0) 1 8 Tryd.underlying22 HI.out HZ.out.1 HZ.out.2.1 HZ.out.2.2 rfl (by decide) _ _ _ rfl HBO.out ⟨gp, 0, none⟩ (0) 0 ((out.drop (j)).map iV) ?hx ?hl (?hnews) ?hone ?h63 ?hby ?hba ?_)
              case hx => rfl
              case hnews =>
                have h := own_news HOB.out (i := j) (m := 0) (o := 0) (by omega) (.inl rfl)
                rw [← List.map_drop, List.take_of_length_le (by simp; try omega)] at h
                exact h
              case hl => simp; try omega
              case hone => exact int_one _
              case h63 => unfold maxLen; omega
              case hby => omega
              case hba => omega
              intro cv cw co cg _
              have HCO := hid co
              have hcgl : ∀ q, q < wr.heap.size → cw.heap[q]? = wr.heap[q]? := fun q hq => (cg.block q (by omega) (fun e => by have := (HBO.out.lt q e.symm).1; omega)).trans (HBB.out.block q hq)
              have HBC := hid (show Below wr.heap.size wr cw from ⟨cg.os.trans HBB.out.os, cg.tape.trans HBB.out.tape, cg.output.trans HBB.out.output, by have := cg.size; omega, hcgl⟩)
              have HLEN := hid (show (insU x out).length = j + 1 by rw [HINS.out]; simp; omega)
              have HROW := hid (show cw.ownsRow w.heap.size 3 1 cv (insU x out).length ((insU x out).map iV) by
                rw [HLEN.out, HINS.out]
                have h := own_mono HCO.out hzz
                simpa using h)
              have hcs := HLEN.out
              clear co cg hcgl HBO HOB HBB HCO
              go_wp2_with fail
              refine And.intro ?_ ?_
              · exact ⟨k + 1, insU x out, by omega, by go_num, by rw [HLEN.out]; omega, HROW.out, hid (fun h => by rw [h] at hcs; simp at hcs <;> omega), hid HN.out.symm, HB.out.trans ((HBJ.out.trans (HBC.out.mono HBJ.out.size)).mono HB.out.size)⟩
              · simp [intOf]; omega
    · obtain rfl : k = l.length := by omega
      have HE := hid (show sortU l = out by rw [hout.out, List.take_length, sortL_eq])
      go_wp2_with fail
      go_ret
      rw [HE.out]
      exact ⟨_, rfl, HO.out, HB.out⟩
end Go.Proofs.YtfjomnhdmkbkiaaDoor.Im

namespace Go.Proofs.YtfjomnhdmkbkiaaDoor.Im
open Go.RowKit Go.Lib Go.Maps

theorem stepM_yes {es : List Edge} {row : List Int} {x k : Nat} (hk : k < es.length) (h1 : decide (es[k].fr ∈ row) = true) (h2 : hasS es[k].st x = true) : stepM (es.take (k + 1)) row x = stepM (es.take k) row x ++ [es[k].dst] := by
  unfold stepM; rw [take_succ' _ _ hk, List.filter_append, List.map_append]; simp [of_decide_eq_true h1, h2]
theorem stepM_no {es : List Edge} {row : List Int} {x k : Nat} (hk : k < es.length) (h : (decide (es[k].fr ∈ row) && hasS es[k].st x) = false) : stepM (es.take (k + 1)) row x = stepM (es.take k) row x := by
  unfold stepM; rw [take_succ' _ _ hk, List.filter_append, List.map_append]; simp only [List.filter_cons, h]; simp
theorem lit_of_nat (x : Nat) : (x : Int) = ((x : Nat) : Int) := rfl
set_option maxRecDepth 100000 in
set_option maxHeartbeats 4000000 in
theorem stepR_any {F : Nat → Prop} {w : World} {s a b c va : Value} {n : Nfa} {row : List Int} (hn : NfaIn F w s a b c n) (hr : IntsIn F w va row) (hF : ∀ g, F g → g < w.heap.size) (hst : ∀ e ∈ n.edges, e.st.ok) (hel : n.edges.length ≤ 65536) (y : Int) (x : Nat) (hyx : y = x) (hx : x < 256) :
    Calls Tryd.prog 52 #[.agg #[s, a, b, c], va, .int .i64 y] w (IntsPost w (sortU (stepM n.edges row x))) := by
  obtain ⟨W0, hW0⟩ : ∃ W0, W0 = w.alloc (.cells #[s, a, b, c] 25) := ⟨_, rfl⟩
  have hA0 : W0.heap[w.heap.size]? = some (.cells #[s, a, b, c] 25 (0, 0)) := by rw [hW0]; exact heap_alloc_new _ _
  have hB0 : Below w.heap.size w W0 := by rw [hW0]; exact (Below.refl _ _).alloc (Nat.le_refl _) _
  have hz0 : W0.heap.size = w.heap.size + 1 := by rw [hW0]; simp
  have HB := hid (fun (W : World) (h : Below (w.heap.size + 1) W0 W) => hB0.trans (h.mono (by omega)))
  have HN := hid (fun (W : World) (h : Below (w.heap.size + 1) W0 W) => (show NfaIn F W s a b c n from hn.frame (fun _ h => h) (fun g hg _ => (HB.out W h).block g (hF g hg))))
  have HR := hid (fun (W : World) (h : Below (w.heap.size + 1) W0 W) => (show IntsIn F W va row from hr.frame (fun _ h => h) (fun g hg _ => (HB.out W h).block g (hF g hg))))
  have HF := hid (fun (W : World) (h : Below (w.heap.size + 1) W0 W) (g : Nat) (hg : F g) => (show g < W.heap.size from Nat.lt_of_lt_of_le (hF g hg) (HB.out W h).size))
  have HX := hid (fun (W : World) (h : Below (w.heap.size + 1) W0 W) => ncells ((h.block w.heap.size (by omega)).trans hA0))
  have HTH := hid (fun (W W' : World) (h : Below (w.heap.size + 1) W0 W) (h' : Below W.heap.size W W') => h.trans (h'.mono (by have := h.size; omega)))
  have HSZ := hid (fun (W : World) (h : Below (w.heap.size + 1) W0 W) => (show w.heap.size + 1 ≤ W.heap.size by have := h.size; omega))
  have HST := hid hst
  have hsv := hn.states
  subst hsv
  obtain ⟨ada, cpa, rfl, hma, _⟩ := hn.starts
  obtain ⟨adb, cpb, rfl, hmb, _⟩ := hn.ends
  obtain ⟨adc, cpc, rfl, hmc, _⟩ := hn.edges
  unfold maxLen at hma hmb hmc
  have HW0 := hid hW0
  obtain ⟨i0, hi, hz0', hz1, hz2⟩ := info_parts infoI
  have HI := hid hi
  have HZ := hid (And.intro hz0' (And.intro hz1 hz2))
  subst hyx
  clear hi hz0' hz1 hz2 hn hr hF hA0 hB0 hW0 hz0 hst
  go_enter Tryd.func52, Tryd.ntmps52
  go_upto_region 1 with fail
  rw [← HW0.out]
  go_wp2_with fail
  go_loopw [7, 8] (fun p vi wr => ∃ (k : Nat) (out : List Int), k ≤ n.edges.length ∧ vi = .int .i64 k ∧ out.length ≤ k ∧ wr.ownsRow (w.heap.size + 1) 3 1 p out.length (out.map iV) ∧ Hid (out = stepM (n.edges.take k) row x) ∧ Below (w.heap.size + 1) W0 wr) (fun _ vi _ => n.edges.length - (intOf vi).toNat)
  case atStart => exact ⟨0, [], Nat.zero_le _, rfl, Nat.le_refl _, World.ownsRow_nil _ _ _ _, hid rfl, Below.refl _ _⟩
  case round =>
    obtain ⟨k, out, hk, rfl, hol, hown, hout, hbel⟩ := hrel
    obtain ⟨adp, cpp, rfl⟩ := own_shape hown
    have HO := hid hown
    have HBK := hid hbel
    have hsz := HSZ.out wr hbel
    clear hown hbel
    obtain ⟨q0, q1, q2, q3⟩ := HX.out wr HBK.out
    by_cases hlt : k < n.edges.length
    · obtain ⟨g, off, rfl, hg, x0, x1, x2, x3, x4, x5⟩ := (HN.out wr HBK.out).edges.at' hlt
      have hso := HST.out n.edges[k] (List.getElem_mem hlt)
      have hyes := stepM_yes (row := row) (x := x) hlt
      have hno := stepM_no (row := row) (x := x) hlt
      rw [← hout.out] at hyes hno
      generalize n.edges[k] = e at *
      have HYES := hid hyes
      have HNO := hid hno
      have HSO := hid hso
      clear hyes hno hso
      have hwa : Below (w.heap.size + 1) W0 (wr.alloc (.cells e.cs 67)) := HBK.out.alloc hsz _
      have hin := inR_any (HR.out _ hwa) e.fr
      have hhas := hasR_any e.st HSO.out x x rfl hx (wr.alloc (.cells e.cs 67))
      have HHAS := hid hhas
      clear hwa hhas
      rcases Bool.eq_false_or_eq_true (decide (e.fr ∈ row)) with hd | hd
      · rw [hd] at hin
        have HIN := hid hin
        have HD := hid hd
        clear hd hin
        rcases Bool.eq_false_or_eq_true (hasS e.st x) with hh | hh
        · have hh1 := HHAS.out
          rw [hh] at hh1
          have hy := HYES.out HD.out hh
          have HH := hid hh1
          have HY := hid hy
          clear hh hh1 hy
          go_wp2_with (first | (go_at_call 54; refine HIN.out.mono ?_; rintro e' w2 ⟨rfl, rfl⟩) | (go_at_call 83; refine HH.out.mono ?_; rintro e' w3 ⟨rfl, hb3⟩; have HB3 := hid hb3; have hblk := blk_edge01 ((hb3.block wr.heap.size (lt_alloc wr _)).trans (heap_alloc_new wr (.cells e.cs 67))); have d1 := hblk.2; have hz3 := hb3.size; have HO3 := hid (own_after HO.out hb3); clear hblk hb3) | (at_builtin; refine wpList_append_own _ rfl _ _ 22 rfl (w.heap.size + 1) 3 i0 (.int .i64 0) 1 8 Tryd.underlying22 HI.out HZ.out.1 HZ.out.2.1 HZ.out.2.2 rfl (by decide) _ _ _ rfl (HO3.out.alloc _) ⟨w3.heap.size, 0, none⟩ 1 1 [iV e.dst] rfl rfl (one_at (heap_alloc_new _ _)) (one_cell_one rfl) (by unfold maxLen; omega) (by omega) (by simp at hz3 ⊢; omega) ?_; intro v' w4 hown4 hgrow4 _; have HG4 := hid hgrow4; have HO4 := hid hown4; clear hown4 hgrow4))
          have hg4 := show World.grownBy (w3.alloc (.cells #[.int .i64 e.dst] 3)) w4 (Value.slice adp out.length cpp).ownBlock from HG4.out
          have hbe : Below (w.heap.size + 1) W0 w3 := HTH.out _ _ (HBK.out.alloc hsz _) HB3.out
          have hx4 : Below (w.heap.size + 1) W0 w4 := (hbe.alloc (HSZ.out _ hbe) _).grown hg4 (by have := HSZ.out _ hbe; simp; omega) (fun q hq => (HO3.out.lt q hq).1)
          refine And.intro ?_ ?_
          · exact ⟨k + 1, out ++ [e.dst], by omega, by go_num, by simp; omega, by rw [List.length_append, List.map_append]; exact HO4.out, hid HY.out.symm, hx4⟩
          · simp [intOf]; omega
        · have hh1 := HHAS.out
          rw [hh] at hh1
          have hn2 := HNO.out (by rw [hh, Bool.and_false])
          have HH := hid hh1
          have HN2 := hid hn2
          clear hh hh1 hn2
          go_wp2_with (first | (go_at_call 54; refine HIN.out.mono ?_; rintro e' w2 ⟨rfl, rfl⟩) | (go_at_call 83; refine HH.out.mono ?_; rintro e' w3 ⟨rfl, hb3⟩; have HB3 := hid hb3; have HO3 := hid (own_after HO.out hb3); clear hb3))
          refine And.intro ?_ ?_
          · exact ⟨k + 1, out, by omega, by go_num, by omega, HO3.out, hid HN2.out.symm, HTH.out _ _ (HBK.out.alloc hsz _) HB3.out⟩
          · simp [intOf]; omega
      · rw [hd] at hin
        have hn2 := HNO.out (by rw [hd]; rfl)
        have HN2 := hid hn2
        have HIN := hid hin
        clear hd hin hn2
        go_wp2_with (go_at_call 54; refine HIN.out.mono ?_; rintro e' w2 ⟨rfl, rfl⟩)
        refine And.intro ?_ ?_
        · exact ⟨k + 1, out, by omega, by go_num, by omega, HO.out.alloc _, hid HN2.out.symm, HBK.out.alloc hsz _⟩
        · simp [intOf]; omega
    · obtain rfl : k = n.edges.length := by omega
      have HE := hid (show stepM n.edges row x = out by rw [hout.out, List.take_length])
      have hsort := sortR_any (ints_of_own HO.out (by unfold maxLen; omega)) (fun g hg => hg.2) (by omega)
      have HS := hid hsort
      clear hsort
      go_wp2_with (go_at_call 84; refine HS.out.mono ?_; rintro e' w2 ⟨v2, rfl, hown2, hb2⟩; have HO2 := hid hown2; have HB2 := hid hb2; clear hown2 hb2)
      go_ret
      rw [HE.out]
      exact ⟨_, rfl, own_mono HO2.out (by omega), HB.out _ (HTH.out _ _ HBK.out HB2.out)⟩
end Go.Proofs.YtfjomnhdmkbkiaaDoor.Im
