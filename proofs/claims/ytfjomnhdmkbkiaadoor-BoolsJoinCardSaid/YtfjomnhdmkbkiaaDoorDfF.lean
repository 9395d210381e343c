/-
  The contract of part.Parts.
-/
import Derived.Test.YtfjomnhdmkbkiaaDoorDfE
import Derived.Test.YtfjomnhdmkbkiaaDoorDfC
namespace Go.Proofs.YtfjomnhdmkbkiaaDoor.Im
open Go.RowKit Go.Lib Go.Maps

theorem idx_inst (ks : List (List B)) (y : List B) : @List.idxOf _ instBEqOfDecidableEq y ks = ks.idxOf y := by
  have e : (instBEqOfDecidableEq : BEq (List B)) = List.instBEq := by
    have h : ∀ i1 i2 : BEq (List B), i1.beq = i2.beq → i1 = i2 := fun i1 i2 h => by cases i1; cases i2; cases h; rfl
    refine h _ _ (funext fun a => funext fun b => ?_)
    rw [Bool.eq_iff_iff]
    exact ⟨fun h => by have : a = b := of_decide_eq_true h; subst this; exact beq_self_eq_true a, fun h => decide_eq_true (eq_of_beq (α := List B) h)⟩
  rw [e]
/-- what stands when a byte's key was looked up, and a new part laid -/
def prePart (l : List Se) (b : Nat) (ks : List (List B)) (p : List Se) : List (List B) × List Se × Nat :=
  if keyM l b ∈ ks then (ks, p, ks.idxOf (keyM l b)) else (ks ++ [keyM l b], p ++ [Se.none], ks.length)
theorem partStep_pre {l : List Se} {b : Nat} {ks : List (List B)} {p : List Se} (h : ks.length = p.length) :
    partStep l b ks p = ((prePart l b ks p).1, (prePart l b ks p).2.1.set (prePart l b ks p).2.2 (anyS ((prePart l b ks p).2.1.getD (prePart l b ks p).2.2 Se.none) (orBit Se.none b))) := by
  unfold partStep prePart
  split
  · rfl
  · simp only [h]
    congr 1
    rw [List.set_append_right _ _ (Nat.le_refl _), Nat.sub_self]
    have : (p ++ [Se.none]).getD p.length Se.none = Se.none := by simp [List.getD_eq_getElem?_getD]
    rw [this]
    rfl
theorem prePart_lt {l : List Se} {b : Nat} {ks : List (List B)} {p : List Se} (h : ks.length = p.length) : (prePart l b ks p).2.2 < (prePart l b ks p).2.1.length ∧ (prePart l b ks p).1.length = (prePart l b ks p).2.1.length ∧ (prePart l b ks p).1.length ≤ ks.length + 1 := by
  unfold prePart
  split
  · rename_i hm
    have := List.idxOf_lt_length_of_mem hm
    exact ⟨h ▸ this, h, Nat.le_succ _⟩
  · simp [h]
theorem mapPlaces (w : World) : (zeroValue 3).run Tryd.prog w = .ok (.int .i64 0) w := by kernel_rfl
theorem strKey : Keyed Tryd.prog 9 := string_keyed Tryd.underlying9
theorem keyTxt {l : List B} (h : l.length ≤ maxLen) : keyOf Tryd.prog 9 (txtV l) = some (.string l) := Go.WideMaps.keyOf_string_mk (s := ⟨l.toArray⟩) Tryd.underlying9 (by simpa [ByteArray.size] using h)
abbrev KeysIn (w : World) (b : Nat) (ks : List (List B)) : Prop := PlacesAt Tryd.prog 9 3 txtV w b ks
theorem keyM_len (l : List Se) (b : Nat) : (keyM l b).length = l.length := by unfold keyM; simp
theorem infoSet' : (Tryd.prog.info? 65).map (fun i => (i.zero, i.size, i.bytes)) = some (some (.agg #[.int .u64 0, .int .u64 0, .int .u64 0, .int .u64 0]), 4, 32) := infoSet

theorem own_turned {w w' : World} {base e size n b : Nat} {v : Value} {xs : List Value} (h : w.ownsRow base e size v n xs) (ht : w.mapTurned w' b) : w'.ownsRow base e size v n xs := by
  refine ⟨h.1, ?_⟩
  rcases h.2 with hn | ⟨g, cap, cur, hv, hb, hg, rest⟩
  · exact .inl hn
  · refine .inr ⟨g, cap, cur, hv, hb, ?_, rest⟩
    obtain ⟨es, clock, es', clock', hm, _⟩ := id ht
    refine (ht.grown.block g (lt_of_heap hg) ?_).trans hg
    intro e
    cases e
    rw [hm] at hg
    cases hg
theorem turned_blk {w w' : World} {b g : Nat} (ht : w.mapTurned w' b) (hne : g ≠ b) (hg : g < w.heap.size) : w'.heap[g]? = w.heap[g]? := ht.grown.block g hg (fun e => hne (Option.some.inj e))
theorem below_turned {w w1 w2 : World} {B b : Nat} (h : Below B w w1) (ht : w1.mapTurned w2 b) (hb : B ≤ b) (hB : B ≤ w1.heap.size) : Below B w w2 :=
  h.grown ht.grown hB fun k hk => by cases hk; exact hb
set_option maxRecDepth 100000 in
set_option maxHeartbeats 4000000 in
theorem parts_any {F : Nat → Prop} {w : World} {v : Value} {l : List Se} (hl : SetsIn F w v l) (hF : ∀ g, F g → g < w.heap.size) (hs : l.length ≤ 1024) :
    Calls Tryd.prog 38 #[v] w (SetsPost w (some (partFrom l 256 0 [] []))) := by
  have HL := hid hl
  obtain ⟨ad, cp, rfl, _, _⟩ := hl
  obtain ⟨i0, hi, hz0, hz1, hz2⟩ := info_parts infoSet
  have HI := hid hi
  have HZ := hid (And.intro hz0 (And.intro hz1 hz2))
  clear hi hz0 hz1 hz2
  have hmm := @run_makeMap Tryd.prog
  have hs' : (l.length : Int) ≤ 1024 := by omega
  go_enter Tryd.func38, Tryd.ntmps38
  go_wp2
  go_loopw [5, 14] (fun p i wr => ∃ (k : Nat) (ks : List (List B)) (ss : List Se), k ≤ 256 ∧ Hid (ks.length = ss.length) ∧ ss.length ≤ k ∧ i = .int .i64 k ∧ wr.ownsRow (w.heap.size + 1) 65 4 p ss.length (flat ss) ∧ KeysIn wr w.heap.size ks ∧ Hid (partFrom l (256 - k) k ks ss = partFrom l 256 0 [] []) ∧ Below w.heap.size w wr) (fun _ i _ => 256 - (intOf i).toNat)
  case atStart => exact ⟨0, [], [], by omega, rfl, Nat.le_refl _, rfl, World.ownsRow_nil _ _ _ _, PlacesAt.made _ _ _ _ _, hid rfl, (Below.refl _ _).alloc (Nat.le_refl _) _⟩
  case round =>
    obtain ⟨k, ks, ss, hk, hks, hsk, rfl, hown, hkeys, hpf, hbel⟩ := hrel
    obtain ⟨adp, cpp, rfl⟩ := own_shape hown
    have HO := hid hown
    have HK := hid hkeys
    clear hown hkeys
    by_cases hlt : k < 256
    · have hLW := SetsIn.frame HL.out (w' := wr) (F' := F) (fun _ h => h) (fun q hq _ => hbel.block q (hF q hq))
      have hcall := key_any hLW (fun q hq => Nat.lt_of_lt_of_le (hF q hq) hbel.size) hs (UInt8.ofNat k)
      have HKB := hid (show (UInt8.ofNat k).toNat = k by simp; omega)
      rw [HKB.out] at hcall
      have hkw : IntKind.u8.wrap (k : Int) = (k : Int) := IntWalk.u8_in _ (by omega)
      clear hLW
      go_upto_if 28 with (first | (go_at_call 72; refine hcall.mono ?_; rintro e w1 ⟨rfl, hb1⟩; have HO1 := hid (own_later HO.out hb1); have HK1 := hid (HK.out.block (hb1.block _ HK.out.lt))) | (at_lookup; refine wpList_place_any _ rfl _ _ 100 rfl 9 3 strKey Tryd.underlying100 Tryd.underlying3 (mapPlaces _) txtV w.heap.size ks rfl HK1.out (keyM l k) _ rfl (keyTxt (by rw [keyM_len]; unfold maxLen; omega)) ?_))
      generalize hgb : hasK ks (keyM l k) = bb
      generalize hgi : idxK ks (keyM l k) = ix
      have HGB := hid hgb
      have HGI := hid hgi
      clear hgb hgi
      go_cut [5, 8] (fun p n wx => n = .int .i64 ((prePart l k ks ss).2.2 : Nat) ∧ wx.ownsRow (w.heap.size + 1) 65 4 p (prePart l k ks ss).2.1.length (flat (prePart l k ks ss).2.1) ∧ KeysIn wx w.heap.size (prePart l k ks ss).1 ∧ Below w.heap.size w wx)
      case first =>
        have hB1 : Below w.heap.size w w1 := hbel.trans (hb1.mono hbel.size)
        by_cases hm : keyM l k ∈ ks
        · have HP := hid (show prePart l k ks ss = (ks, ss, ks.idxOf (keyM l k)) by unfold prePart; rw [if_pos hm])
          have HX := hid (show ix = ks.idxOf (keyM l k) by rw [← HGI.out]; unfold idxK; rw [if_pos hm]; exact idx_inst ks _)
          obtain rfl : bb = true := by rw [← HGB.out]; unfold hasK; simp [hm]
          clear hm
          go_wp2
          go_meet
          rw [HP.out]
          exact ⟨congrArg (fun x : Nat => Value.int .i64 (x : Int)) HX.out, HO1.out, HK1.out, hB1⟩
        · have HP := hid (show prePart l k ks ss = (ks ++ [keyM l k], ss ++ [Se.none], ks.length) by unfold prePart; rw [if_neg hm])
          obtain rfl : bb = false := by rw [← HGB.out]; unfold hasK; simp [hm]
          have HM := hid hm
          clear hm
          have hkl := hks.out
          go_wp2_with (first | (at_mapUpdate; refine wpList_place_put _ rfl _ _ _ 100 rfl 9 3 strKey Tryd.underlying100 Tryd.underlying3 txtV txtV_inj w.heap.size ks rfl HK1.out (by unfold maxLen; omega) (keyM l k) _ rfl (by rw [hks.out]; rfl) (keyTxt (by rw [keyM_len]; unfold maxLen; omega)) HM.out ?_; intro w2 hk2 ht2; have HK2 := hid hk2; have HO2 := hid (own_turned HO1.out ht2); have HB2 := hid (below_turned hB1 ht2 (Nat.le_refl _) hB1.size); clear hk2 ht2) | (at_builtin; refine wpList_append_own _ rfl _ _ 56 rfl (w.heap.size + 1) 65 i0 _ 4 32 Tryd.underlying56 HI.out HZ.out.1 HZ.out.2.1 HZ.out.2.2 rfl (by decide) _ _ _ rfl (HO2.out.alloc _) ⟨w2.heap.size, 0, none⟩ 1 1 Se.none.cs.toList rfl rfl ?c1 ?c2 ?c3 ?c4 ?c5 ?_))
          case c1 => intro j u hu; simpa [Se.none] using hu
          case c2 => simp [Value.oneCell']
          case c3 => unfold maxLen; omega
          case c4 => omega
          case c5 => have := HK2.out.lt; simp; omega
          intro p' w3 hown3 hgrow3 _
          go_wp2
          go_meet
          rw [HP.out]
          have hz2 := HB2.out.size
          have hlt2 := HK2.out.lt
          refine ⟨congrArg (fun x : Nat => Value.int .i64 (x : Int)) hks.out.symm, by rw [List.length_append, flat_snoc]; exact hown3, ?_, (HB2.out.alloc hz2 _).grown hgrow3 (by simp; omega) (fun q hq => by have := (HO2.out.lt q hq).1; omega)⟩
          exact HK2.out.block ((hgrow3.block _ (by simp; omega) (fun e => by have := (HO2.out.lt _ e.symm).1; omega)).trans (alloc_old hlt2))
      case rest =>
        obtain ⟨rfl, hown1, hkeys1, hbel1⟩ := hcut
        obtain ⟨adq, cpq, rfl⟩ := own_shape hown1
        obtain ⟨hjl, hkl1, hkl2⟩ := prePart_lt (l := l) (b := k) hks.out
        have HPS := hid (partStep_pre (l := l) (b := k) hks.out)
        have hql : (prePart l k ks ss).2.1.length ≤ k + 1 := by have := hks.out; omega
        have HPF := hid (show partFrom l (256 - (k + 1)) (k + 1) (partStep l k ks ss).1 (partStep l k ks ss).2 = partFrom l 256 0 [] [] by rw [← hpf.out, show 256 - k = (256 - (k + 1)) + 1 by omega]; rfl)
        rw [HPS.out] at HPF
        clear HPS hpf hks hcall
        generalize hpp : prePart l k ks ss = pp at *
        have HPP := hid hpp
        clear hpp
        obtain ⟨kk, s1, j⟩ := pp
        dsimp only at *
        obtain ⟨g1, rfl, hbg, hg1, ⟨c0, c1, c2, c3⟩, hfz⟩ := part_at hown1 rfl hjl
        have f0 := hfz (j * 4)
        have f1 := hfz (j * 4 + 1)
        have f2 := hfz (j * 4 + 2)
        have f3 := hfz (j * 4 + 3)
        have HOQ := hid hown1
        have HKQ := hid hkeys1
        have HKL := hid hkl1
        have hci : (j : Int) < (s1.length : Int) := by omega
        have hbs := hbel1.size
        have hD := hid (show s1[j] = s1.getD j Se.none by rw [List.getD_eq_getElem?_getD, List.getElem?_eq_getElem hjl]; rfl)
        clear hown1 hfz hkeys1 hkl1
        go_upto_region 14 with fail
        have hkw : IntKind.u8.wrap (k : Int) = (k : Int) := IntWalk.u8_in _ (by omega)
        go_region_with ((first | (go_at_call 73; go_loud (refine (of_n k rfl hlt _ _ (heap_new_drew wc _)).mono ?_; rintro e w1 ⟨rfl, hb1⟩; have HO2 := hid (own_later (own_drew (HOQ.out.alloc _)) hb1); obtain ⟨d0, d1, d2, d3, e0, e1, e2, e3⟩ := part_now HO2.out rfl hjl)) | (go_at_call 59; refine (any_any s1[j] (orBit Se.none k) _).mono ?_; rintro e w2 ⟨rfl, hb2⟩; have HO3 := hid (own_later HO2.out hb2); obtain ⟨k0, k1, k2, k3, l0, l1, l2, l3⟩ := part_now HO3.out rfl hjl)))
        all_goals go_wp2
        all_goals
          have hz1 : wc.heap.size < w1.heap.size := by have := hb1.size; simp at this; omega
          have hlk : w.heap.size < wc.heap.size := HKQ.out.lt
          have hB2 : Below w.heap.size w w2 := ((hbel1.alloc hbs _).drew.trans (hb1.mono (by simp; omega))).trans (hb2.mono (by omega))
          have hne : w.heap.size ≠ g1 := by omega
          have hg0 : w.heap.size ≤ g1 := by omega
          go_roundw
          case rel => exact ⟨k + 1, kk, s1.set j (anyS s1[j] (orBit Se.none k)), by omega, hid (by rw [List.length_set]; exact HKL.out), by rw [List.length_set]; omega, by go_num, by rw [List.length_set]; exact sets_store HO3.out hjl _, HKQ.out.block ((heap_setCell_other _ _ _ _ hne).trans ((heap_setCell_other _ _ _ _ hne).trans ((heap_setCell_other _ _ _ _ hne).trans ((heap_setCell_other _ _ _ _ hne).trans ((hb2.block _ (by omega)).trans ((hb1.block _ (by simp; omega)).trans (alloc_old hlk))))))), hid (by rw [← HPF.out, hD.out]), (((hB2.setCell hg0 _).setCell hg0 _).setCell hg0 _).setCell hg0 _⟩
          case measure => simp [intOf]; omega
    · obtain rfl : k = 256 := by omega
      have HN := hid (show partFrom l 256 0 [] [] = ss by rw [← hpf.out]; rfl)
      go_wp2
      go_ret2
      rw [HN.out]
      exact ⟨hbel, adp, cpp, rfl, own_mono HO.out (Nat.le_succ _)⟩
end Go.Proofs.YtfjomnhdmkbkiaaDoor.Im
