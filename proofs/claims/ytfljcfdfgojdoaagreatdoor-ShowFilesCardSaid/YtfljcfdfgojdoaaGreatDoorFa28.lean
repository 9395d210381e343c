/-
  The reference's lexer: sets, white, words, Next at the beginning of a text, names.
-/
import Derived.Test.YtfljcfdfgojdoaaGreatDoorFa27
import Derived.Deep.DeepCutAuto
namespace Go.Proofs.YtfljcfdfgojdoaaGreatDoor.Sh.Rf
open Go.RowKit Go.Lib Go.Proofs.YtfljcfdfgojdoaaGreatDoor Go.Proofs.YtfljcfdfgojdoaaGreatDoor.Sh


theorem sfx_of (l : List B) : sfx ⟨l.toArray⟩ 0 = l := by simp [sfx]
theorem setFin_kind {n m : Nat} {b : Bool} {x : Except Int (Se × List B)} {t : Tok} (h : setFin n b x = .ok (t, m)) : t.kind = 3 := by
  rcases x with e' | ⟨u, r⟩
  · cases h
  · cases h; rfl
set_option maxRecDepth 100000 in
set_option maxHeartbeats 4000000 in
theorem setR_any (s : ByteArray) (k : Nat) (w : World) (hk : k < s.size) (hs : s.size ≤ 140737488351232) :
    Calls Tryz.prog 161 #[.string s, .int .i64 k] w (TkPost (fun t _ er => er ≠ 0 ∨ t.kind = 3) w) := by
  obtain ⟨j0, hj, hy0, hy1, hy2⟩ := info_parts infoBoolR
  go_enter Tryz.func161, Tryz.ntmps161
  go_upto_region 3 with (refine wpList_make_full _ rfl _ _ 107 rfl (w.heap.size + 1) 4 j0 (.bool false) 1 Tryz.underlying107 hj hy0 hy1 .i64 .i64 256 256 256 rfl rfl rfl rfl (by rw [hy2]; decide) (by unfold maxLen; omega) (by simp) ?_; intro w2 hown2 hgrow2; have HO2 := hid hown2; have HG2 := hid hgrow2; clear hown2 hgrow2)
  have hT2 : TokAt w.heap.size Tok.zero w2 := (HG2.out.block w.heap.size (by simp) (by simp)).trans (heap_alloc_new _ _)
  have hB2 : Below w.heap.size w w2 := ((Below.refl _ w).alloc (Nat.le_refl _) _).grown HG2.out (by simp) (fun q hq => by cases hq)
  have hR2 : BRow w2 (w.heap.size + 1) (w.heap.size + 1) 256 (List.replicate 256 false) := brow_made (by have h := HO2.out; simp only [World.size_alloc] at h; exact h)
  have hz2 : w.heap.size + 2 ≤ w2.heap.size := by
    have h : w.heap.size + 1 < w2.heap.size := lt_of_heap (own_tag hR2 rfl).choose_spec
    omega
  clear HO2 HG2 hj hy0 hy1 hy2
  have HR2 := hid hR2
  have HT2 := hid hT2
  clear hR2 hT2
  go_cut [9] (fun v9 wx => (∃ nb : Bool, v9 = .bool nb ∧ Hid (nb = true → k + 1 < s.size)) ∧ w2 = wx)
  case first =>
    by_cases hlt : k + 1 < s.size
    · cases hq : ((s[k + 1].toNat : Int) == 94)
      · go_wp2
        go_meet
        exact ⟨⟨false, rfl, fun h => by cases h⟩, rfl⟩
      · go_wp2
        go_meet
        exact ⟨⟨true, rfl, fun _ => hlt⟩, rfl⟩
    · go_wp2
      go_meet
      exact ⟨⟨false, rfl, fun h => by cases h⟩, rfl⟩
  case rest =>
  obtain ⟨⟨nb, rfl, HNB⟩, rfl⟩ := hcut
  go_upto_if 32 with fail
  go_cut [8] (fun v8 wx => (∃ j : Nat, k < j ∧ j ≤ s.size ∧ v8 = .int .i64 j) ∧ w2 = wx)
  case first =>
    cases nb
    · go_wp2
      go_meet
      exact ⟨⟨k + 1, by omega, by omega, by go_num⟩, rfl⟩
    · have hk1 := HNB.out rfl
      go_wp2
      go_meet
      exact ⟨⟨k + 2, by omega, by omega, by go_num⟩, rfl⟩
  case rest =>
  obtain ⟨⟨j0, hj1, hj2, rfl⟩, rfl⟩ := hcut
  go_wp2
  go_loopw [8] (fun v wr => ∃ (j : Nat) (l : List Bool), k < j ∧ j ≤ s.size ∧ v = .int .i64 j ∧ Hid (l.length = 256) ∧ BRow wr (w.heap.size + 1) (w.heap.size + 1) 256 l ∧ TokAt w.heap.size Tok.zero wr ∧ Below w.heap.size w wr ∧ w.heap.size + 2 ≤ wr.heap.size) (fun v _ => s.size - (RowKit.intOf v).toNat)
  case atStart => exact ⟨j0, _, hj1, hj2, rfl, hid (by simp), HR2.out, HT2.out, hB2, hz2⟩
  case round =>
    obtain ⟨j, l, hkj, hj, rfl, HL, hbr, hT, hbel, hsz⟩ := hrel
    have HBR := hid hbr
    have HT := hid hT
    clear hbr hT
    obtain ⟨wo, rfl⟩ : ∃ wo : World, wo = wr := ⟨_, rfl⟩
    by_cases hq0 : ∃ h : j < s.size, ((s[j].toNat : Int) != 93) = false
    · obtain ⟨hlt, hq⟩ := hq0
      go_wp2
      go_loopw [18] (fun v wx => ∃ (m : Nat) (l : List Bool), m ≤ 256 ∧ v = .int .i64 m ∧ Hid (l.length = 256) ∧ BRow wx (w.heap.size + 1) (w.heap.size + 1) 256 l ∧ TokAt w.heap.size Tok.zero wx ∧ Below w.heap.size w wx) (fun v _ => 256 - (RowKit.intOf v).toNat)
      case atStart => exact ⟨0, l, by omega, rfl, HL, HBR.out, HT.out, hbel⟩
      case round =>
        obtain ⟨m, l1, hm, rfl, HL1, hbr1, hT1, hbel1⟩ := hrel
        have HBR1 := hid hbr1
        have HT1 := hid hT1
        clear hbr1 hT1
        by_cases hm1 : m < 256
        · have hcl := HBR1.out.cell (i := m) (by have := HL1.out; omega) HL1.out
          have hfr := own_free (i := m) HBR1.out
          go_wp2
          go_roundw
          case rel => exact ⟨m + 1, l1.set m _, by omega, by go_num, hid (by rw [List.length_set]; exact HL1.out), HBR1.out.set m _, (heap_setCell_other _ _ _ _ (by simp)).trans HT1.out, hbel1.setCell (p := ⟨w.heap.size + 1, m, none⟩) (Nat.le_succ _) _⟩
          case measure => simp [RowKit.intOf]; omega
        · have hBI := hid (HBR1.out.bools HL1.out)
          have hsx := hbel1.size
          have hsT : w.heap.size < wr.heap.size := lt_of_heap HT1.out
          go_wp2_with fail
          refine (makeR_any hBI.out HL1.out (fun g hg => hg)).mono ?_
          rintro e w3 ⟨⟨u, rfl⟩, hb3⟩
          have HT3 := hid ((hb3.block _ hsT).trans HT1.out)
          have hbel3 := hbel1.trans (hb3.mono hsx)
          go_wp2_with (refine wpList_store_blk rfl 139 (.tmp 4) (.tmp 116) rfl 8 info63 w.heap.size 139 _ HT3.out rfl (⟨3, [], u, 0, k⟩ : Tok).cells rfl rfl rfl rfl ?_)
          exact bodyPost_ret (results_cell3 rfl _ _ w.heap.size 139 _ (0, 0) _ rfl (setRow_heap HT3.out _) Tryz.underlying139 rfl info63) rfl ⟨Below.setRow hbel3 (Nat.le_refl _) _, ⟨3, [], u, 0, k⟩, _, _, rfl, .inr rfl⟩
    · have hq1 : (s.size ≤ j ∨ ∃ h : j < s.size, ((s[j].toNat : Int) != 93) = true) := by
        by_cases hlt : j < s.size
        · right
          refine ⟨hlt, ?_⟩
          cases hb : ((s[j].toNat : Int) != 93)
          · exact absurd ⟨hlt, hb⟩ hq0
          · rfl
        · left; omega
      clear hq0
      rcases hq1 with hlt | ⟨hlt, hq⟩
      · go_wp2_with fail
        refine (one_atR s _ j _ (by omega) (by omega) hs).mono ?_
        rintro e w1 ⟨⟨b, t, er, rfl, hot⟩, hc1⟩
        have HT1 := hid ((hc1.block _ (by omega)).trans HT.out)
        have hbel1 := hbel.trans (hc1.mono (by omega))
        have her : er ≠ 0 := fun h => by have := hot h; omega
        have her' : (er != 0) = true := by simpa using her
        have HE := hid her
        clear her hot
        go_wp2_with (refine wpList_store_blk rfl 139 (.tmp 4) (.tmp 54) rfl 8 info63 w.heap.size 139 _ HT1.out rfl Tok.zero.cells rfl rfl rfl rfl ?_)
        exact bodyPost_ret (results_cell3 rfl _ _ w.heap.size 139 _ (0, 0) _ rfl (setRow_heap HT1.out _) Tryz.underlying139 rfl info63) rfl ⟨Below.setRow hbel1 (Nat.le_refl _) _, Tok.zero, _, _, rfl, .inl HE.out⟩
      · go_wp2_with fail
        refine (one_atR s _ j _ (by omega) (by omega) hs).mono ?_
        rintro e w1 ⟨⟨b, t, er, rfl, hot⟩, hc1⟩
        have HT1 := hid ((hc1.block _ (by omega)).trans HT.out)
        have HBR1 := hid (own_later HBR.out hc1)
        have hbel1 := hbel.trans (hc1.mono (by omega))
        have hsz1 := hc1.size
        by_cases her : er = 0
        · subst her
          obtain ⟨h1, h2⟩ := hot rfl
          obtain ⟨n, rfl⟩ := Int.eq_ofNat_of_zero_le (show 0 ≤ t by omega)
          clear hot
          go_upto_region 12 with fail
          go_cut [68] (fun v wx => (∃ cb : Bool, v = .bool cb ∧ Hid (cb = true → n < s.size)) ∧ w1 = wx)
          case first =>
            by_cases hnl : n < s.size
            · cases hd : ((s[n].toNat : Int) == 45)
              · go_wp2
                go_meet
                exact ⟨⟨false, rfl, fun h => by cases h⟩, rfl⟩
              · go_wp2
                go_meet
                exact ⟨⟨true, rfl, fun _ => hnl⟩, rfl⟩
            · go_wp2
              go_meet
              exact ⟨⟨false, rfl, fun h => by cases h⟩, rfl⟩
          case rest =>
          obtain ⟨⟨cb, rfl, HCB⟩, rfl⟩ := hcut
          go_upto_if 68 with fail
          go_cut [8, 13] (fun v8 v13 wx => ∃ (i : Nat) (b' : B), j < i ∧ i ≤ s.size ∧ v8 = .int .i64 i ∧ v13 = .int .u8 (b'.toNat : Int) ∧ BRow wx (w.heap.size + 1) (w.heap.size + 1) 256 l ∧ TokAt w.heap.size Tok.zero wx ∧ Below w.heap.size w wx ∧ w.heap.size + 2 ≤ wx.heap.size)
          case first =>
            cases cb
            · go_wp2
              go_meet
              exact ⟨n, b, by omega, by omega, rfl, rfl, HBR1.out, HT1.out, hbel1, by omega⟩
            · have hnl := HCB.out rfl
              go_wp2_with fail
              refine (one_atR s _ (n + 1) _ (by omega) (by omega) hs).mono ?_
              rintro e w4 ⟨⟨c, t, er, rfl, hot⟩, hc4⟩
              have HT4 := hid ((hc4.block _ (by omega)).trans HT1.out)
              have HBR4 := hid (own_later HBR1.out hc4)
              have hbel4 := hbel1.trans (hc4.mono (by omega))
              have hsz4 := hc4.size
              by_cases her : er = 0
              · subst her
                obtain ⟨h3, h4⟩ := hot rfl
                obtain ⟨i, rfl⟩ := Int.eq_ofNat_of_zero_le (show 0 ≤ t by omega)
                clear hot
                by_cases hcb : (c.toNat : Int) < b.toNat
                · go_wp2_with (refine wpList_store_blk rfl 139 (.tmp 4) (.tmp 85) rfl 8 info63 w.heap.size 139 _ HT4.out rfl Tok.zero.cells rfl rfl rfl rfl ?_)
                  exact bodyPost_ret (results_cell3 rfl _ _ w.heap.size 139 _ (0, 0) _ rfl (setRow_heap HT4.out _) Tryz.underlying139 rfl info63) rfl ⟨Below.setRow hbel4 (Nat.le_refl _) _, Tok.zero, _, _, rfl, .inl (by decide)⟩
                · go_wp2
                  go_meet
                  exact ⟨i, c, by omega, by omega, rfl, rfl, HBR4.out, HT4.out, hbel4, by omega⟩
              · have her' : (er != 0) = true := by simpa using her
                have HE := hid her
                clear her hot
                go_wp2_with (refine wpList_store_blk rfl 139 (.tmp 4) (.tmp 79) rfl 8 info63 w.heap.size 139 _ HT4.out rfl Tok.zero.cells rfl rfl rfl rfl ?_)
                exact bodyPost_ret (results_cell3 rfl _ _ w.heap.size 139 _ (0, 0) _ rfl (setRow_heap HT4.out _) Tryz.underlying139 rfl info63) rfl ⟨Below.setRow hbel4 (Nat.le_refl _) _, Tok.zero, _, _, rfl, .inl HE.out⟩
          case rest =>
            obtain ⟨i, b', hi1, hi2, rfl, rfl, hbrx, hTx, hbelx, hszx⟩ := hcut
            have HBRX := hid hbrx
            have HTX := hid hTx
            clear hbrx hTx
            have hb8 := b.toNat_lt
            have hb8' := b'.toNat_lt
            go_wp2
            go_loopw [17] (fun v wx => ∃ (m : Nat) (l : List Bool), v = .int .i64 m ∧ m ≤ 256 ∧ Hid (l.length = 256) ∧ BRow wx (w.heap.size + 1) (w.heap.size + 1) 256 l ∧ TokAt w.heap.size Tok.zero wx ∧ Below w.heap.size w wx ∧ w.heap.size + 2 ≤ wx.heap.size) (fun v _ => 256 - (RowKit.intOf v).toNat)
            case atStart => exact ⟨b.toNat, l, rfl, by omega, HL, HBRX.out, HTX.out, hbelx, hszx⟩
            case round =>
              obtain ⟨m, l2, rfl, hm, HL2, hbr2, hT2, hbel2, hsz2⟩ := hrel
              have HBR2 := hid hbr2
              have HT2 := hid hT2
              clear hbr2 hT2
              by_cases hmb : (m : Int) ≤ b'.toNat
              · have hm256 : m < 256 := by omega
                have hcl := HBR2.out.cell (i := m) (by have := HL2.out; omega) HL2.out
                have hfr := own_free (i := m) HBR2.out
                go_wp2
                go_roundw
                case rel => exact ⟨m + 1, l2.set m _, by go_num, by omega, hid (by rw [List.length_set]; exact HL2.out), HBR2.out.set m _, (heap_setCell_other _ _ _ _ (by simp)).trans HT2.out, hbel2.setCell (p := ⟨w.heap.size + 1, m, none⟩) (Nat.le_succ _) _, by simp; omega⟩
                case measure => simp [RowKit.intOf]; omega
              · go_wp2
                go_roundw
                case rel => exact ⟨i, l2, by omega, by omega, rfl, HL2, HBR2.out, HT2.out, hbel2, hsz2⟩
                case measure => simp [RowKit.intOf]; omega
        · have her' : (er != 0) = true := by simpa using her
          have HE := hid her
          clear her hot
          go_wp2_with (refine wpList_store_blk rfl 139 (.tmp 4) (.tmp 54) rfl 8 info63 w.heap.size 139 _ HT1.out rfl Tok.zero.cells rfl rfl rfl rfl ?_)
          exact bodyPost_ret (results_cell3 rfl _ _ w.heap.size 139 _ (0, 0) _ rfl (setRow_heap HT1.out _) Tryz.underlying139 rfl info63) rfl ⟨Below.setRow hbel1 (Nat.le_refl _) _, Tok.zero, _, _, rfl, .inl HE.out⟩
end Go.Proofs.YtfljcfdfgojdoaaGreatDoor.Sh.Rf

namespace Go.Proofs.YtfljcfdfgojdoaaGreatDoor.Sh.Rf
open Go.RowKit Go.Lib Go.Proofs.YtfljcfdfgojdoaaGreatDoor Go.Proofs.YtfljcfdfgojdoaaGreatDoor.Sh

def SkipPost (s : ByteArray) (k : Nat) (w : World) (e : Ending) (w' : World) : Prop :=
  ∃ n : Nat, e = .returned (.int .i64 n) ∧ k ≤ n ∧ n ≤ s.size ∧ (∀ h : k < s.size, letterB s[k].toNat = true → n = k) ∧ w = w'
theorem letter_not {c : B} (h : (c.toNat : Int) = 35 ∨ hasB ⟨#[32, 10, 13, 9]⟩ c = true) : letterB c.toNat = false := by
  rcases h with h | h
  · rw [h]; rfl
  · simp [hasB] at h
    rcases h with rfl | rfl | rfl | rfl <;> rfl

set_option maxRecDepth 100000 in
set_option maxHeartbeats 1000000 in
theorem skipR_any (s : ByteArray) (k : Nat) (w : World) (hk : k ≤ s.size) (hs : s.size ≤ 140737488351232) :
    Calls Tryz.prog 159 #[.string s, .int .i64 k] w (SkipPost s k w) := by
  go_enter Tryz.func159, Tryz.ntmps159
  go_wp2
  go_loop [1] (fun v => ∃ j : Nat, k ≤ j ∧ j ≤ s.size ∧ v = .int .i64 j ∧ Hid (∀ h : k < s.size, letterB s[k].toNat = true → j = k)) (fun v => s.size - (RowKit.intOf v).toNat)
  case atStart => exact ⟨k, Nat.le_refl _, hk, rfl, fun _ _ => rfl⟩
  case round =>
    obtain ⟨j, hkj, hj, rfl, H⟩ := hrel
    by_cases hlt : j < s.size
    · have hN : Hid (((s[j].toNat : Int) = 35 ∨ hasB ⟨#[32, 10, 13, 9]⟩ s[j] = true) → ∀ h : k < s.size, letterB s[k].toNat = true → False) := hid (fun ho h hl => by
        obtain rfl := H.out h hl
        rw [letter_not ho] at hl
        cases hl)
      cases h35 : ((s[j].toNat : Int) == 35)
      · cases hin : hasB ⟨#[32, 10, 13, 9]⟩ s[j]
        · have HIN := hid hin
          clear hin
          go_wp2_with (go_at_call 165; refine (inR_any s[j] ⟨#[32, 10, 13, 9]⟩ _ (by decide)).mono ?_; rintro e w' ⟨rfl, rfl⟩; rw [HIN.out])
          go_ret
          exact ⟨j, rfl, hkj, hj, H.out, rfl⟩
        · have HIN := hid hin
          clear hin
          go_wp2_with (go_at_call 165; refine (inR_any s[j] ⟨#[32, 10, 13, 9]⟩ _ (by decide)).mono ?_; rintro e w' ⟨rfl, rfl⟩; rw [HIN.out])
          go_round
          case rel => exact ⟨j + 1, by omega, by omega, by go_num, hid (fun h hl => (hN.out (.inr HIN.out) h hl).elim)⟩
          case measure => simp [RowKit.intOf]; omega
      · have H35 := hid (show (s[j].toNat : Int) = 35 from beq_iff_eq.1 h35)
        have h10 : ((s[j].toNat : Int) != 10) = true := by rw [H35.out]; rfl
        go_wp2_with fail
        go_loop [1] (fun v => ∃ i : Nat, j ≤ i ∧ i ≤ s.size ∧ v = .int .i64 i) (fun v => s.size - (RowKit.intOf v).toNat)
        case atStart => exact ⟨j, Nat.le_refl _, hj, rfl⟩
        case round =>
          obtain ⟨i, hji, hi, rfl⟩ := hrel
          by_cases hij : i = j
          · obtain rfl := hij
            go_wp2
            go_round
            case rel => exact ⟨i + 1, by omega, by omega, by go_num⟩
            case measure => simp [RowKit.intOf]; omega
          · have hji' : j < i := by omega
            by_cases hil : i < s.size
            · cases hi10 : ((s[i].toNat : Int) != 10)
              · go_wp2
                go_round
                case rel => exact ⟨i, by omega, by omega, rfl, hid (fun h hl => (hN.out (.inl H35.out) h hl).elim)⟩
                case measure => simp [RowKit.intOf]; omega
              · go_wp2
                go_round
                case rel => exact ⟨i + 1, by omega, by omega, by go_num⟩
                case measure => simp [RowKit.intOf]; omega
            · go_wp2
              go_round
              case rel => exact ⟨i, by omega, by omega, rfl, hid (fun h hl => (hN.out (.inl H35.out) h hl).elim)⟩
              case measure => simp [RowKit.intOf]; omega
    · go_wp2
      go_ret
      exact ⟨j, rfl, hkj, hj, H.out, rfl⟩
/-- what word hands back -/
def WordOk (s : ByteArray) (k : Nat) (b : Bool) (t : Tok) (tp er : Int) : Prop :=
  if b then (if 31 < nameLen (sfx s k) then er ≠ 0 else er = 0 ∧ t.kind = 1 ∧ t.pos = k ∧ tp = (k : Int) + nameLen (sfx s k)) else (er ≠ 0 ∨ t.kind = 5)
theorem wordOk_long {s : ByteArray} {k m : Nat} {t : Tok} {tp er : Int} (h : nameLen (sfx s k) = m) (hm : 31 < m) (he : er ≠ 0) : WordOk s k true t tp er := by
  unfold WordOk; rw [if_pos rfl, if_pos (by omega)]; exact he
theorem wordOk_name {s : ByteArray} {k m : Nat} {x : List B} (h : nameLen (sfx s k) = m) (hm : ¬ 31 < m) : WordOk s k true ⟨1, x, Se.none, 0, k⟩ ((k : Int) + m) 0 := by
  unfold WordOk; rw [if_pos rfl, if_neg (by omega), h]; exact ⟨rfl, rfl, rfl, rfl⟩
theorem wordOk_num {s : ByteArray} {k : Nat} {t : Tok} {tp er : Int} (h : er ≠ 0 ∨ t.kind = 5) : WordOk s k false t tp er := by
  unfold WordOk; simpa using h

set_option maxRecDepth 100000 in
set_option maxHeartbeats 2000000 in
theorem wordR_any (s : ByteArray) (k : Nat) (w : World) (hk : k < s.size) (hs : s.size ≤ 140737488351232) :
    Calls Tryz.prog 164 #[.string s, .int .i64 k] w (TkPost (WordOk s k (letterB s[k].toNat)) w) := by
  have hs2 : s.size ≤ 9223372036854775807 := by omega
  cases hb : letterB s[k].toNat
  · go_enter Tryz.func164, Tryz.ntmps164
    go_wp2
    go_loop [7] (fun i => ∃ m : Nat, k + m ≤ s.size ∧ i = .int .i64 ((k : Int) + m)) (fun i => s.size - (RowKit.intOf i).toNat)
    case atStart => exact ⟨0, by omega, by simp⟩
    case round =>
      obtain ⟨m, hm, rfl⟩ := hrel
      have hcase : (∃ h : k + m < s.size, digitB s[k + m].toNat = true) ∨ (∃ h : k + m < s.size, digitB s[k + m].toNat = false) ∨ s.size ≤ k + m := by
        by_cases h : k + m < s.size
        · cases hd : digitB s[k + m].toNat
          · exact .inr (.inl ⟨h, hd⟩)
          · exact .inl ⟨h, hd⟩
        · exact .inr (.inr (by omega))
      rcases hcase with ⟨hlt, hd⟩ | hcase
      · go_wp2_with (first | (go_at_call 163; refine (digitR_any _ _).mono ?_; rintro e w' ⟨rfl, rfl⟩) | (go_at_call 162; refine (letterR_any _ _).mono ?_; rintro e w' ⟨rfl, rfl⟩))
        go_round
        case rel => exact ⟨m + 1, by omega, by go_num⟩
        case measure => simp [RowKit.intOf]; omega
      · by_cases h4 : 4 < (k : Int) + m - k
        · rcases hcase with ⟨hlt, hd⟩ | hlt
          all_goals
            go_wp2_with (first | (go_at_call 163; refine (digitR_any _ _).mono ?_; rintro e w' ⟨rfl, rfl⟩) | (go_at_call 162; refine (letterR_any _ _).mono ?_; rintro e w' ⟨rfl, rfl⟩))
            exact bodyPost_ret (v := .tuple #[.agg Tok.zero.cells, .int .i64 k, .int .i64 2]) (by simp [results, Tryz.results164, go_sem, Tok.cells, Tok.zero, Se.none]) rfl ⟨(Below.refl _ _).alloc (Nat.le_refl _) _, Tok.zero, _, _, rfl, wordOk_num (.inl (by decide))⟩
        · rcases hcase with ⟨hlt, hd⟩ | hlt
          all_goals
            go_wp2_with (first | (go_at_call 163; refine (digitR_any _ _).mono ?_; rintro e w' ⟨rfl, rfl⟩) | (go_at_call 162; refine (letterR_any _ _).mono ?_; rintro e w' ⟨rfl, rfl⟩))
            go_loop [8, 9] (fun n i => ∃ (x : Int) (j : Nat), n = .int .i64 x ∧ i = .int .i64 j ∧ k ≤ j ∧ j ≤ k + m) (fun _ i => k + m - (RowKit.intOf i).toNat)
            case atStart => exact ⟨0, k, rfl, rfl, by omega, by omega⟩
            case round =>
              obtain ⟨x, j, rfl, rfl, hkj, hjm⟩ := hrel
              by_cases hj : j < k + m
              · have hjs : j < s.size := by omega
                have hj' : (j : Int) < (k : Int) + m := by omega
                go_wp2
                go_round
                case rel => exact ⟨_, j + 1, rfl, by go_num, by omega, by omega⟩
                case measure => simp [RowKit.intOf]; omega
              · have hj' : ¬ (j : Int) < (k : Int) + m := by omega
                go_wp2
                exact bodyPost_ret (v := .tuple #[.agg (⟨5, [], Se.none, x, k⟩ : Tok).cells, .int .i64 ((k : Int) + m), .int .i64 0]) (by simp [results, Tryz.results164, go_sem, Tok.cells, Se.none]) rfl ⟨(Below.refl _ _).alloc (Nat.le_refl _) _, ⟨5, [], Se.none, x, k⟩, _, _, rfl, wordOk_num (.inr rfl)⟩
  · go_enter Tryz.func164, Tryz.ntmps164
    go_wp2
    go_loop [7] (fun i => ∃ m : Nat, k + m ≤ s.size ∧ i = .int .i64 ((k : Int) + m) ∧ Hid (nameLen (sfx s k) = m + nameLen (sfx s (k + m)))) (fun i => s.size - (RowKit.intOf i).toNat)
    case atStart => exact ⟨0, by omega, by simp, by show _ = _; simp⟩
    case round =>
      obtain ⟨m, hm, rfl, H⟩ := hrel
      have hcase : (∃ h : k + m < s.size, digitB s[k + m].toNat = true ∧ nameB s[k + m] = true) ∨ (∃ h : k + m < s.size, digitB s[k + m].toNat = false ∧ letterB s[k + m].toNat = true ∧ nameB s[k + m] = true) ∨ (∃ h : k + m < s.size, digitB s[k + m].toNat = false ∧ letterB s[k + m].toNat = false) ∨ s.size ≤ k + m := by
        by_cases h : k + m < s.size
        · cases hd : digitB s[k + m].toNat
          · cases hl : letterB s[k + m].toNat
            · exact .inr (.inr (.inl ⟨h, hd, hl⟩))
            · exact .inr (.inl ⟨h, hd, hl, nameB_letter hl⟩)
          · exact .inl ⟨h, hd, nameB_digit hd⟩
        · exact .inr (.inr (.inr (by omega)))
      have HON := hid (show ∀ h : k + m < s.size, nameB s[k + m] = true → nameLen (sfx s k) = (m + 1) + nameLen (sfx s (k + (m + 1))) from fun h hn => by rw [H.out, sfx_cons s (k + m) h, nameLen_yes hn]; simp only [Nat.add_assoc]; omega)
      rcases hcase with ⟨hlt, hd, hn⟩ | ⟨hlt, hd, hl, hn⟩ | hcase
      · have HN := hid hn
        clear hn
        go_wp2_with (first | (go_at_call 163; refine (digitR_any _ _).mono ?_; rintro e w' ⟨rfl, rfl⟩) | (go_at_call 162; refine (letterR_any _ _).mono ?_; rintro e w' ⟨rfl, rfl⟩))
        go_round
        case rel => exact ⟨m + 1, by omega, by go_num, HON.out hlt HN.out⟩
        case measure => simp [RowKit.intOf]; omega
      · have HN := hid hn
        clear hn
        go_wp2_with (first | (go_at_call 163; refine (digitR_any _ _).mono ?_; rintro e w' ⟨rfl, rfl⟩) | (go_at_call 162; refine (letterR_any _ _).mono ?_; rintro e w' ⟨rfl, rfl⟩))
        go_round
        case rel => exact ⟨m + 1, by omega, by go_num, HON.out hlt HN.out⟩
        case measure => simp [RowKit.intOf]; omega
      · have HNL := hid (show nameLen (sfx s k) = m by
          rcases hcase with ⟨h, hd, hl⟩ | h
          · rw [H.out, sfx_cons s (k + m) h, nameLen_no (nameB_not (by rw [hl]; simp) hd)]; rfl
          · rw [H.out, sfx_nil s (k + m) h]; rfl)
        by_cases h31 : 31 < (k : Int) + m - k
        · rcases hcase with ⟨hlt, hd, hl⟩ | hlt
          all_goals
            go_wp2_with (first | (go_at_call 163; refine (digitR_any _ _).mono ?_; rintro e w' ⟨rfl, rfl⟩) | (go_at_call 162; refine (letterR_any _ _).mono ?_; rintro e w' ⟨rfl, rfl⟩))
            exact bodyPost_ret (v := .tuple #[.agg Tok.zero.cells, .int .i64 k, .int .i64 2]) (by simp [results, Tryz.results164, go_sem, Tok.cells, Tok.zero, Se.none]) rfl ⟨(Below.refl _ _).alloc (Nat.le_refl _) _, Tok.zero, _, _, rfl, wordOk_long HNL.out (by omega) (by decide)⟩
        · rcases hcase with ⟨hlt, hd, hl⟩ | hlt
          all_goals
            go_wp2_with (first | (go_at_call 163; refine (digitR_any _ _).mono ?_; rintro e w' ⟨rfl, rfl⟩) | (go_at_call 162; refine (letterR_any _ _).mono ?_; rintro e w' ⟨rfl, rfl⟩))
            exact bodyPost_ret (v := .tuple #[.agg (⟨1, (sfx s k).take m, Se.none, 0, k⟩ : Tok).cells, .int .i64 ((k : Int) + m), .int .i64 0]) (by simp [results, Tryz.results164, go_sem, Tok.cells, Se.none, extract_sfx]) rfl ⟨(Below.refl _ _).alloc (Nat.le_refl _) _, ⟨1, (sfx s k).take m, Se.none, 0, k⟩, _, _, rfl, wordOk_name HNL.out (by omega)⟩
/-- what may be a word, by the reference -/
def refN (l : List B) : Bool := match l with
  | [] => false
  | c :: _ => letterB c.toNat && (decide (nameLen l = l.length) && decide (l.length ≤ 31))
def NextOk (l : List B) (t : Tok) (tp er : Int) : Prop := (decide (er = 0) && (decide (t.kind = 1) && (decide (t.pos = 0) && decide (tp = l.length)))) = refN l
theorem nextOk_no {l : List B} {t : Tok} {tp er : Int} (h : refN l = false) (ht : er ≠ 0 ∨ t.kind ≠ 1 ∨ t.pos ≠ 0) : NextOk l t tp er := by
  unfold NextOk
  rw [h]
  rcases ht with h | h | h <;> simp [h]
theorem refN_no {s : ByteArray} {n : Nat} (hn : n ≤ s.size) (h1 : ∀ h : n < s.size, letterB s[n].toNat = false) (h2 : ∀ h : 0 < s.size, letterB s[0].toNat = true → n = 0) : refN (sfx s 0) = false := by
  by_cases h0 : 0 < s.size
  · rw [sfx_cons s 0 h0]
    unfold refN
    simp only
    cases hl : letterB s[0].toNat
    · rfl
    · obtain rfl := h2 h0 hl
      rw [h1 h0] at hl
      cases hl
  · rw [sfx_nil s 0 (by omega)]; rfl
theorem refN_pos {s : ByteArray} {n : Nat} (hn : 0 < n) (h2 : ∀ h : 0 < s.size, letterB s[0].toNat = true → n = 0) : refN (sfx s 0) = false := by
  by_cases h0 : 0 < s.size
  · rw [sfx_cons s 0 h0]
    unfold refN
    simp only
    cases hl : letterB s[0].toNat
    · rfl
    · have := h2 h0 hl; omega
  · rw [sfx_nil s 0 (by omega)]; rfl
theorem nextOk_word {s : ByteArray} {t : Tok} {tp er : Int} (h0 : 0 < s.size) (hl : letterB s[0].toNat = true) (h : WordOk s 0 true t tp er) : NextOk (sfx s 0) t tp er := by
  unfold WordOk at h
  rw [if_pos rfl] at h
  unfold NextOk
  have hlen := sfx_len s 0
  have e : refN (sfx s 0) = (decide (nameLen (sfx s 0) = (sfx s 0).length) && decide ((sfx s 0).length ≤ 31)) := by
    rw [sfx_cons s 0 h0]
    unfold refN
    simp only
    rw [hl]
    rfl
  rw [e]
  split at h
  · rename_i h31
    have : ¬ (nameLen (sfx s 0) = (sfx s 0).length ∧ (sfx s 0).length ≤ 31) := by omega
    rw [Bool.eq_iff_iff]
    simp only [Bool.and_eq_true, decide_eq_true_eq]
    exact ⟨fun hh => absurd hh.1 h, fun hh => absurd hh this⟩
  · rename_i h31
    obtain ⟨h1, h2, h3, h4⟩ := h
    rw [Bool.eq_iff_iff]
    simp only [Bool.and_eq_true, decide_eq_true_eq]
    exact ⟨fun hh => by have := hh.2.2.2; omega, fun hh => ⟨h1, h2, by omega, by omega⟩⟩
theorem letter_quote {c : B} (h : ((c.toNat : Int) == 34) = true ∨ ((c.toNat : Int) == 91) = true) : letterB c.toNat = false := by
  rcases h with h | h
  · rw [beq_iff_eq.1 h]; rfl
  · rw [beq_iff_eq.1 h]; rfl

theorem four_one : (4 : Int) ≠ 1 := by decide
theorem word_next {s : ByteArray} {n : Nat} {t : Tok} {tp er : Int} (hlt : n < s.size) (hl : letterB s[n].toNat = true) (h2 : ∀ h : 0 < s.size, letterB s[0].toNat = true → n = 0) (h : WordOk s n true t tp er) : NextOk (sfx s 0) t tp er := by
  by_cases hn0 : n = 0
  · subst hn0
    exact nextOk_word hlt hl h
  · refine nextOk_no (refN_pos (Nat.pos_of_ne_zero hn0) h2) ?_
    unfold WordOk at h
    rw [if_pos rfl] at h
    split at h
    · exact .inl h
    · exact .inr (.inr (by omega))

set_option maxRecDepth 100000 in
set_option maxHeartbeats 4000000 in
theorem nextR_any (s : ByteArray) (w : World) (hs : s.size ≤ 140737488351232) :
    Calls Tryz.prog 133 #[.string s, .int .i64 0] w (TkPost (NextOk (sfx s 0)) w) := by
  have hs2 : s.size ≤ 9223372036854775807 := by omega
  go_enter Tryz.func133, Tryz.ntmps133
  go_wp2_with fail
  refine (skipR_any s 0 _ (Nat.zero_le _) hs).mono ?_
  rintro e w1 ⟨n, rfl, _, hn, h0, rfl⟩
  have H0 := hid h0
  clear h0
  have HZ : Hid (TokAt w.heap.size Tok.zero (w.alloc (.cells Tok.zero.cells 139))) := hid (heap_alloc_new _ _)
  have hB : Below w.heap.size w (w.alloc (.cells Tok.zero.cells 139)) := (Below.refl _ _).alloc (Nat.le_refl _) _
  by_cases hlt : n < s.size
  · cases h34 : ((s[n].toNat : Int) == 34)
    · cases h91 : ((s[n].toNat : Int) == 91)
      · cases hl : letterB s[n].toNat
        · have HR := hid (refN_no hn (fun _ => hl) H0.out)
          cases hd : digitB s[n].toNat
          · go_wp2_with (first | (go_at_call 162; refine (letterR_any _ _).mono ?_; rintro e w' ⟨rfl, rfl⟩) | (go_at_call 163; refine (digitR_any _ _).mono ?_; rintro e w' ⟨rfl, rfl⟩) | (go_at_call 165; refine (inR_any s[n] ⟨#[61, 59, 40, 41, 124, 38, 33, 42, 43, 63, 58, 46, 47, 44, 123, 125, 126, 62]⟩ _ (by decide)).mono ?_; rintro e w' ⟨rfl, rfl⟩))
            all_goals first
              | (refine bodyPost_ret (v := .tuple #[.agg (⟨4, [45, 62], Se.none, 0, n⟩ : Tok).cells, .int .i64 ((n : Int) + 2), .int .i64 0]) ?_ rfl ⟨(Below.refl _ _).alloc (Nat.le_refl _) _, ⟨4, [45, 62], Se.none, 0, n⟩, _, _, rfl, nextOk_no HR.out (.inr (.inl four_one))⟩; simp [results, Tryz.results133, go_sem, Tok.cells, Se.none]; done)
              | (refine bodyPost_ret (v := .tuple #[.agg (⟨4, (sfx s n).take 1, Se.none, 0, n⟩ : Tok).cells, .int .i64 ((n : Int) + 1), .int .i64 0]) ?_ rfl ⟨(Below.refl _ _).alloc (Nat.le_refl _) _, ⟨4, (sfx s n).take 1, Se.none, 0, n⟩, _, _, rfl, nextOk_no HR.out (.inr (.inl four_one))⟩; simp [results, Tryz.results133, go_sem, Tok.cells, Se.none, extract_sfx]; done)
              | (refine bodyPost_ret (v := .tuple #[.agg Tok.zero.cells, .int .i64 n, .int .i64 4]) ?_ rfl ⟨(Below.refl _ _).alloc (Nat.le_refl _) _, Tok.zero, _, _, rfl, nextOk_no HR.out (.inl (by decide))⟩; simp [results, Tryz.results133, go_sem, Tok.cells, Tok.zero, Se.none]; done)
          · go_wp2_with (first | (go_at_call 162; refine (letterR_any _ _).mono ?_; rintro e w' ⟨rfl, rfl⟩) | (go_at_call 163; refine (digitR_any _ _).mono ?_; rintro e w' ⟨rfl, rfl⟩) | (go_at_call 164; refine (wordR_any s n _ hlt hs).mono ?_; rw [hl]; rintro e w2 ⟨hb2, t, tp, er, rfl, ht⟩; have HB := tok_block hb2; have HTT := hid ht; clear ht) | (refine wpList_store_blk rfl 139 (.tmp 4) (.tmp 55) rfl 8 info63 w.heap.size 139 _ HB.out rfl t.cells rfl rfl rfl rfl ?_))
            exact bodyPost_ret (results_cell3 rfl _ _ w.heap.size 139 _ (0, 0) _ rfl (setRow_heap HB.out _) Tryz.underlying139 rfl info63) rfl ⟨tok_end hb2 _, t, _, _, rfl, nextOk_no HR.out (by have h := HTT.out; unfold WordOk at h; rcases (by simpa using h : er ≠ 0 ∨ t.kind = 5) with h | h; exact .inl h; exact .inr (.inl (by omega)))⟩
        · go_wp2_with (first | (go_at_call 162; refine (letterR_any _ _).mono ?_; rintro e w' ⟨rfl, rfl⟩) | (go_at_call 163; refine (digitR_any _ _).mono ?_; rintro e w' ⟨rfl, rfl⟩) | (go_at_call 164; refine (wordR_any s n _ hlt hs).mono ?_; rw [hl]; rintro e w2 ⟨hb2, t, tp, er, rfl, ht⟩; have HB := tok_block hb2; have HTT := hid ht; clear ht) | (refine wpList_store_blk rfl 139 (.tmp 4) (.tmp 55) rfl 8 info63 w.heap.size 139 _ HB.out rfl t.cells rfl rfl rfl rfl ?_))
          exact bodyPost_ret (results_cell3 rfl _ _ w.heap.size 139 _ (0, 0) _ rfl (setRow_heap HB.out _) Tryz.underlying139 rfl info63) rfl ⟨tok_end hb2 _, t, _, _, rfl, word_next hlt hl H0.out HTT.out⟩
      · have HR := hid (refN_no hn (fun _ => letter_quote (.inr h91)) H0.out)
        go_wp2_with (first | (go_at_call 161; refine (setR_any s n _ hlt hs).mono ?_; rintro e w2 ⟨hb2, t, tp, er, rfl, ht⟩; have HB := tok_block hb2; have HTT := hid ht; clear ht) | (refine wpList_store_blk rfl 139 (.tmp 4) (.tmp 43) rfl 8 info63 w.heap.size 139 _ HB.out rfl t.cells rfl rfl rfl rfl ?_))
        exact bodyPost_ret (results_cell3 rfl _ _ w.heap.size 139 _ (0, 0) _ rfl (setRow_heap HB.out _) Tryz.underlying139 rfl info63) rfl ⟨tok_end hb2 _, t, _, _, rfl, nextOk_no HR.out (by rcases HTT.out with h | h; exact .inl h; exact .inr (.inl (by omega)))⟩
    · have HR := hid (refN_no hn (fun _ => letter_quote (.inl h34)) H0.out)
      go_wp2_with (first | (go_at_call 160; refine (textR_any s n _ hlt hs).mono ?_; rintro e w2 ⟨hb2, t, tp, er, rfl, ht⟩; have HB := tok_block hb2; have HTT := hid ht; clear ht) | (refine wpList_store_blk rfl 139 (.tmp 4) (.tmp 35) rfl 8 info63 w.heap.size 139 _ HB.out rfl t.cells rfl rfl rfl rfl ?_))
      exact bodyPost_ret (results_cell3 rfl _ _ w.heap.size 139 _ (0, 0) _ rfl (setRow_heap HB.out _) Tryz.underlying139 rfl info63) rfl ⟨tok_end hb2 _, t, _, _, rfl, nextOk_no HR.out (by rcases HTT.out with h | h; exact .inl h; exact .inr (.inl (by omega)))⟩
  · have hns : ((n : Int) == (s.size : Int)) = true := by simp; omega
    have HR := hid (refN_no hn (fun h => absurd h hlt) H0.out)
    go_wp2
    exact bodyPost_ret (v := .tuple #[.agg (⟨0, [], Se.none, 0, n⟩ : Tok).cells, .int .i64 n, .int .i64 0]) (by simp [results, Tryz.results133, go_sem, Tok.cells, Se.none]) rfl ⟨(Below.refl _ _).alloc (Nat.le_refl _) _, ⟨0, [], Se.none, 0, n⟩, _, _, rfl, nextOk_no HR.out (.inr (.inl (by simp)))⟩
theorem tokenL_kind {d : B} {r : List B} {t : Tok} {n : Nat} (h : tokenL (d :: r) = .ok (t, n)) (hk1 : t.kind = 1) : letterB d.toNat = true ∧ t.text = (d :: r).take (nameLen (d :: r)) := by
  unfold tokenL at h
  simp only at h
  split at h
  · rename_i hl
    refine ⟨hl, ?_⟩
    unfold nameL at h
    split at h
    · cases h
    · cases h
      rfl
  · exfalso
    split at h
    · have hk : t.kind = 5 := by
        unfold numL at h; split at h <;> cases h; rfl
      exact absurd (hk.symm.trans hk1) (by decide)
    · split at h
      · obtain ⟨m, hm, rfl⟩ := bump_ok h
        unfold quotedL at hm
        split at hm
        · cases hm
        · split at hm
          · cases hm
          · cases hm
            simp at hk1
      · split at h
        · obtain ⟨m, hm, rfl⟩ := bump_ok h
          have hk : t.kind = 3 := by
            unfold bytesL at hm
            split at hm
            · exact setFin_kind hm
            · split at hm
              · exact setFin_kind hm
              · exact setFin_kind hm
          exact absurd (hk.symm.trans hk1) (by decide)
        · have hk : t.kind = 4 := by
            unfold signL at h
            split at h
            · cases h; rfl
            · split at h
              · cases h
              · split at h <;> cases h; rfl
          exact absurd (hk.symm.trans hk1) (by decide)
theorem white_letter {c : B} (r : List B) (h : letterB c.toNat = true) : white false (c :: r) = c :: r := by
  have hb : ∀ n : Nat, letterB (n : Int) = false → ((c.toNat : Int) == (n : Int)) = false := fun n hn => by
    rw [beq_eq_false_iff_ne]
    intro e
    rw [e, hn] at h
    cases h
  have h32 := hb 32 (by decide)
  have h10 := hb 10 (by decide)
  have h13 := hb 13 (by decide)
  have h9 := hb 9 (by decide)
  have h35 := hb 35 (by decide)
  unfold white
  rw [if_neg (by rintro (e | e | e | e) <;> simp_all), if_neg (by simp_all)]
theorem nameLen_le (l : List B) : nameLen l ≤ l.length := by
  unfold nameLen
  exact (List.takeWhile_prefix _).length_le
theorem name_ref (l : List B) : (refN l && !reservedB l) = nameOk l := by
  have key : refN l = (decide ((nextL 0 l).err = 0) && (decide ((nextL 0 l).tok.kind = 1) && ((nextL 0 l).tok.text == l))) := by
    rcases l with _ | ⟨c, r⟩
    · rfl
    · cases hl : letterB c.toNat
      · have e1 : refN (c :: r) = false := by unfold refN; simp only; rw [hl]; rfl
        rw [e1]
        symm
        rw [Bool.eq_false_iff]
        intro hh
        simp only [Bool.and_eq_true, decide_eq_true_eq, beq_iff_eq] at hh
        obtain ⟨h1, h2, h3⟩ := hh
        unfold nextL at h1 h2 h3
        generalize white false (c :: r) = q at h1 h2 h3
        rcases q with _ | ⟨d, q⟩
        · simp [nextAt] at h2
        · unfold nextAt at h1 h2 h3
          simp only at h1 h2 h3
          rcases ht : tokenL (d :: q) with e | ⟨t, n⟩
          · rw [ht] at h2; simp [Tok.zero] at h2
          · rw [ht] at h2 h3
            simp only at h2 h3
            obtain ⟨k1, k2⟩ := tokenL_kind ht h2
            rw [k2] at h3
            have : d = c := by
              cases hn : nameLen (d :: q) with
              | zero => rw [hn] at h3; simp at h3
              | succ m => rw [hn, List.take_succ_cons] at h3; exact (List.cons.inj h3).1
            rw [this, hl] at k1
            cases k1
      · have hle := nameLen_le (c :: r)
        have e1 : refN (c :: r) = (decide (nameLen (c :: r) = (c :: r).length) && decide ((c :: r).length ≤ 31)) := by unfold refN; simp only; rw [hl]; rfl
        have e2 : tokenL (c :: r) = nameL (c :: r) := by unfold tokenL; simp only; rw [hl]; rfl
        rw [e1]
        unfold nextL
        rw [white_letter r hl]
        unfold nextAt
        simp only
        rw [e2]
        unfold nameL
        by_cases h31 : 31 < (nameLen (c :: r) : Int)
        · rw [if_pos h31]
          have : ¬ (nameLen (c :: r) = (c :: r).length ∧ (c :: r).length ≤ 31) := by omega
          rw [Bool.eq_iff_iff]
          simp only [Bool.and_eq_true, decide_eq_true_eq]
          exact ⟨fun hh => absurd hh this, fun hh => by have := hh.1; omega⟩
        · rw [if_neg h31]
          simp only
          rw [Bool.eq_iff_iff]
          simp only [Bool.and_eq_true, decide_eq_true_eq, beq_iff_eq]
          exact ⟨fun hh => ⟨trivial, trivial, by rw [List.take_of_length_le (by omega)]⟩, fun hh => by
            have h := congrArg List.length hh.2.2
            rw [List.length_take] at h
            omega⟩
  rw [key]
  unfold nameOk
  simp only [Bool.and_assoc]

set_option maxRecDepth 100000 in
set_option maxHeartbeats 1000000 in
theorem nameR_any (l : List B) (w : World) (hs : l.length ≤ 140737488351232) :
    Calls Tryz.prog 88 #[.string ⟨l.toArray⟩] w fun e w' => e = .returned (.bool (nameOk l)) ∧ Below w.heap.size w w' := by
  have hs' : (⟨l.toArray⟩ : ByteArray).size ≤ 140737488351232 := by simpa [ByteArray.size] using hs
  have HS := hid hs'
  clear hs hs'
  go_enter Tryz.func88, Tryz.ntmps88
  go_wp2_with (first | (go_at_call 133; refine (nextR_any ⟨l.toArray⟩ _ HS.out).mono ?_; rw [sfx_of]; rintro e w2 ⟨hb2, ⟨tk, tt, ts, tn, tp⟩, to', er, rfl, ht⟩; have HTT := hid ht; clear ht; simp only [Tok.cells]) | (go_at_call 134; refine (keyR_any l _).mono ?_; rintro e w3 ⟨rfl, rfl⟩))
  all_goals
    go_ret
    refine ⟨bool_eq ?_, bbox hb2 _⟩
    have h := HTT.out
    unfold NextOk at h
    rw [← name_ref l, ← h]
    simp [*]
end Go.Proofs.YtfljcfdfgojdoaaGreatDoor.Sh.Rf
