/-
  ShowBack returns true at every expression and every map, and both read as they did: the row and its tied card, out of the walk.
-/
import Derived.Test.YtfljcfdfgojdoaaGreatDoorRows
import Derived.Test.YtfljcfdfgojdoaaGreatDoorTie
import Derived.Test.YtfljcfdfgojdoaaGreatDoorCards
import Derived.Test.YtfljcfdfgojdoaaGreatDoorChecked
import Derived.WalkKit
import Derived.ProofKit
import Derived.OpenShut
import Derived.Carry
import Derived.LaidMore
import Derived.SevenTiedAt
import Derived.SizedLaws
import Derived.Test.YtfljcfdfgojdoaaGreatDoorSb53
namespace Go.Proofs.YtfljcfdfgojdoaaGreatDoor.showBack
open Go.ChangeShapes Go.WideShapes Go.ChangeAt Go.RowKit Go.Proofs.YtfljcfdfgojdoaaGreatDoor.Sh

theorem seatOwn : ownKnob Tryz.prog.godebug = none := by kernel_rfl
theorem seatLaid : laidOutB Tryz.prog = true := by kernel_rfl
abbrev laidL : List (String × DataW Unit) := [("math/bits.deBruijn32tab", Rows.laid_math_bits_deBruijn32tab), ("math/bits.deBruijn64tab", Rows.laid_math_bits_deBruijn64tab), ("internal/strconv.uint64pow10", Rows.laid_internal_strconv_uint64pow10)]
theorem door_met (os : Os) (args : Array Value) : laidMetH Tryz.prog laidL ((World.doorLaid Tryz.prog 400 os).forCall (fun _ _ => 0) ⟨#[], args, []⟩).memory :=
  laidMetH_of_parts3 (fuel := 8) (laidMet_of_run' 8 (by kernel_rfl) (by kernel_rfl)) (by kernel_rfl) (by kernel_rfl)
section
variable {H : Type} {enc : TypeId × Value → H} {w : World} {spare : Nat → Bool} {held : Bool}
set_option maxRecDepth 100000 in
theorem open_re {b0 : Nat} {v : Value} {d : DataW H} {ps : List MemPlace} (hval : Value.okWide Tryz.prog w .any b0 33 v) (hd : DataW.Trod enc Tryz.prog w 0 spare held 33 v d ps) (hw : InReach 33 d) :
    ∃ (r : Re) (y : Rw), v = .agg y.cs ∧ ReG (Lt w) w r y.cs ∧ TxRe r ∧ SeRe r := by
  unfold Value.okWide at hval
  simp only [Tryz.underlying33] at hval
  obtain ⟨cs, rfl, _⟩ := hval
  obtain ⟨fuel, hf⟩ := hd
  obtain ⟨r, y, h1, h2⟩ := re_of_trod _ fuel (Nat.lt_succ_self _) _ _ hf hw
  have e : cs.toList = y.cs.toList := h1
  obtain rfl : cs = y.cs := by rw [← Array.toArray_toList (xs := cs), e]
  exact ⟨r, y, rfl, h2⟩
set_option maxRecDepth 100000 in
theorem open_map {b0 : Nat} {v : Value} {d : DataW H} {ps : List MemPlace} (hval : Value.okWide Tryz.prog w .any b0 36 v) (hd : DataW.Trod enc Tryz.prog w 0 spare held 36 v d ps) (hw : InReach 36 d) :
    ∃ (r : Mp) (y : Mw), v = .agg y.cs ∧ MpG (Lt w) w r y ∧ TxMp r ∧ SeMp r := by
  unfold Value.okWide at hval
  simp only [Tryz.underlying36] at hval
  obtain ⟨cs, rfl, _⟩ := hval
  obtain ⟨fuel, hf⟩ := hd
  obtain ⟨r, y, h1, h2⟩ := mp_of_trod _ fuel (Nat.lt_succ_self _) _ _ hf hw
  have e : cs.toList = y.cs.toList := h1
  obtain rfl : cs = y.cs := by rw [← Array.toArray_toList (xs := cs), e]
  exact ⟨r, y, rfl, h2⟩
end
set_option maxRecDepth 100000 in
theorem lifted (os : Os) (started : os.Started) (H : Type) (enc : TypeId × Value → H) :
    ReturnsInHanded {} Tryz.checked os 4 .any (fun w args => (Rows.showBackSpec.pre enc Tryz.prog Tryz.f4 [] false w args ∧ laidMetH Tryz.prog laidL w) ∧ sizedMet enc Tryz.prog Tryz.f4 (OpenSpec.ofChange Rows.showBackSpec) false w args)
      (Rows.showBackSpec.post enc Tryz.prog Tryz.f4 false true false false) := by
  refine returnsInHanded_of_change_and (C := Tryz.checked) (X := fun w _ => laidMetH Tryz.prog laidL w) (fun _ _ _ hh h => h.of_heap hh) seatOwn started (by kernel_rfl) Tryz.func4
    (ChangeSpec.witness_shaped (enc := enc) (C := Tryz.checked) (os := os) (X := fun w _ => laidMetH Tryz.prog laidL w) false (World.doorLaid Tryz.prog 400 os) #[.agg #[.int .i64 0, .string ⟨#[]⟩, .int .u64 0, .int .u64 0, .int .u64 0, .int .u64 0, .slice none 0 0, .int .i64 0, .int .i64 0], .agg #[.int .i64 0, .int .i64 0, .string ⟨#[]⟩, .int .u64 0, .int .u64 0, .int .u64 0, .int .u64 0, .slice none 0 0, .int .i64 0, .int .i64 0, .string ⟨#[]⟩, .slice none 0 0, .int .i64 0, .int .i64 0]] 8 rfl (World.shaped_of_RefB (by kernel_rfl) (by kernel_rfl)) (by kernel_rfl) (by kernel_rfl) (by kernel_rfl) (door_met os _)) ?_
  intro W base args ds gs before hval0 hW _ hsz0 hL _
  have hval : ∀ (j : Nat) t v, Tryz.f4.params[j]? = some t → args[j]? = some v → Value.okWide Tryz.prog W .any base t v := hval0
  have hW' := hW
  obtain ⟨p, q, hA0, hV, rfl, hfz, hnd⟩ := hW
  have hA : DataW.TrodAll enc Tryz.prog W 0 (fun _ => true) true Tryz.f4.params.toList args.toList ds p := hA0
  have hsz : (DataW.weightsEach Tryz.prog (Tryz.f4.params.toList ++ []) (ds ++ gs)).all (· ≤ reachBytes) = true := hsz0
  rw [Tryz.params4] at hA hval hsz
  obtain ⟨v0, vs0, d0, ds0, p0, q0, hargs, rfl, rfl, h0, r0⟩ := trodAll_cons hA
  obtain ⟨v1, vs1, d1, ds1, p1, q1, rfl, rfl, rfl, h1, r1⟩ := trodAll_cons r0
  obtain ⟨rfl, rfl, rfl⟩ := trodAll_nil r1
  obtain rfl : args = #[v0, v1] := by cases args; simp_all
  obtain ⟨rfl, rfl⟩ := trodVars_none hV
  have hr0 : InReach 33 d0 := fun m hm => of_decide_eq_true (List.all_eq_true.1 hsz m (DataW.weights_mem_each (j := 0) (t := 33) (d := d0) rfl rfl m hm))
  have hr1 : InReach 36 d1 := fun m hm => of_decide_eq_true (List.all_eq_true.1 hsz m (DataW.weights_mem_each (j := 1) (t := 36) (d := d1) rfl rfl m hm))
  obtain ⟨r, y, rfl, hy, hty, hsy⟩ := open_re (hval 0 33 v0 rfl rfl) h0 hr0
  obtain ⟨m, z, rfl, hz, htz, hsz1⟩ := open_map (hval 1 36 v1 rfl rfl) h1 hr1
  have hlt0 : ∀ y ∈ p0, y.block < W.heap.size := fun y hy => by simpa using hW'.lt y (by simp [hy])
  have hlt1 : ∀ y ∈ p1, y.block < W.heap.size := fun y hy => by simpa using hW'.lt y (by simp [hy])
  clear hA0 hval0 hsz0
  simp only [List.append_nil] at hW'
  refine (showBack_walk hy hz hty hsy htz hsz1).mono fun e W' ⟨he, hg⟩ => ?_
  subst he
  exact ⟨_, rfl, _, _, _, [], _, [], hW', trodAll_mk1 (shut_bool Tryz.underlying4 _), (trodAll_cons_mk (Below.trod seatLaid (by kernel_rfl) (of_decide_eq_true (by kernel_rfl)) h0 hg hlt0) (trodAll_cons_mk (Below.trod seatLaid (by kernel_rfl) (of_decide_eq_true (by kernel_rfl)) h1 hg hlt1) trodAll_mk0)), rfl, hg.frame _, fun h => by cases h⟩

theorem over : Rows.ShowBackSaid :=
  OpenClaim.holds_of_wide 4 Tryz.f4 rfl rfl rfl rfl rfl rfl rfl ⟨rfl, rfl, rfl, rfl, rfl⟩ rfl rfl rfl rfl rfl (by kernel_rfl) Tryz.func4 (by kernel_rfl)
    (of_decide_eq_true (by kernel_rfl)) (by unfold Func.isWrapper; first | (rw [if_pos (by decide +kernel)]; kernel_rfl) | (rw [if_neg (by decide +kernel)]; exact ⟨rfl, rfl⟩))
    (fun os started H enc _ => lifted os started H enc)

/-- ████ THE STATEMENT: the tied card ████ -/
theorem proved : Rows.ShowBackCardSaid :=
  Claim7.holds_tied_plain_at .later [] [.data, .data, .data] true (true, "b75ef85a1626b712fb6133725d835d6d0cb723a6861cd2b9457e1118b06ccbd5") true
    over (fun _ h => by cases h) (by kernel_rfl) (fun _ h => by cases h) showBack_row_tie rfl ⟨rfl, rfl⟩ (by kernel_rfl) rfl
    (fun f fn hf hfn => by
      obtain rfl : f = 4 := Option.some.inj ((show Tryz.prog.funcNamed "whittle/whittlelaw08.ShowBack" = some 4 by kernel_rfl).symm.trans hf) |>.symm
      obtain rfl : fn = Tryz.f4 := (Option.some.inj (Tryz.func4.symm.trans hfn)).symm
      exact ⟨by kernel_rfl, fun j t ht => by
        rw [Tryz.params4] at ht
        rcases j with _ | _ | j
        · simp at ht; subst ht; exact (show Tryz.prog.wantsStandIn 33 = false by kernel_rfl)
        · simp at ht; subst ht; exact (show Tryz.prog.wantsStandIn 36 = false by kernel_rfl)
        · simp at ht⟩)
    (by kernel_rfl)
#print axioms proved
end Go.Proofs.YtfljcfdfgojdoaaGreatDoor.showBack
