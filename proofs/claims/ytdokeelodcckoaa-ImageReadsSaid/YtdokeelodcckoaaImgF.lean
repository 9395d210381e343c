/-
  The contract of seq.row.
-/
import Derived.Test.YtdokeelodcckoaaImgE
namespace Go.Proofs.Ytdokeelodcckoaa.Im
open Go.RowKit Go.Lib

theorem arcsOk_snoc (n : Nat) : ∀ (k : Nat) (zs : List Int) (os : List (List B)) (h1 : k < zs.length) (h2 : k < os.length), arcsOk n (zs.take (k + 1)) (os.take (k + 1)) = (arcsOk n (zs.take k) (os.take k) && arcOk n zs[k] os[k])
  | _, [], _, h, _ => by simp at h
  | _, _ :: _, [], _, h => by simp at h
  | 0, z :: zs, o :: os, _, _ => by simp [arcsOk]
  | k + 1, z :: zs, o :: os, h1, h2 => by
    have := arcsOk_snoc n k zs os (by simpa using h1) (by simpa using h2)
    simp only [List.take_succ_cons, arcsOk, this, List.getElem_cons_succ, Bool.and_assoc]
theorem arcsOk_not (n : Nat) : ∀ (k : Nat) (zs : List Int) (os : List (List B)) (h1 : k < zs.length) (h2 : k < os.length), arcOk n zs[k] os[k] = false → arcsOk n zs os = false
  | _, [], _, h, _, _ => by simp at h
  | _, _ :: _, [], _, h, _ => by simp at h
  | 0, z :: zs, o :: os, _, _, h => by simp only [List.getElem_cons_zero] at h; simp [arcsOk, h]
  | k + 1, z :: zs, o :: os, h1, h2, h => by
    have := arcsOk_not n k zs os (by simpa using h1) (by simpa using h2) (by simpa using h)
    simp [arcsOk, this]

set_option maxRecDepth 100000 in
set_option maxHeartbeats 2000000 in
theorem sRow_any {F : Nat → Prop} {w : World} {a b : Value} {zs : List Int} {os : List (List B)} (n : Nat) (h1 : IntsIn F w a zs) (h2 : StrsIn F w b os) (hn : n ≤ 9223372036854775807) (hos : ∀ o ∈ os, o.length ≤ 9223372036854775807) :
    Calls Try.prog 65 #[a, b, .int .i64 n] w fun e w' => e = .returned (.bool (sRowOk n zs os)) ∧ w = w' := by
  obtain ⟨ad1, cp1, rfl, hm1, hr1⟩ := h1
  obtain ⟨ad2, cp2, rfl, hm2, hr2⟩ := h2
  unfold maxLen at hm1 hm2
  have HR1 := hid hr1
  have HR2 := hid hr2
  have HOS := hid hos
  clear hr1 hr2 hos
  by_cases hl1 : zs.length = 256
  · by_cases hl2 : os.length = 256
    · have hok := hid (show sRowOk n zs os = arcsOk n zs os by unfold sRowOk; simp [hl1, hl2])
      have hb1 : ((zs.length : Int) != 256) = false := by simp; omega
      have hb2 : ((os.length : Int) != 256) = false := by simp; omega
      have HL1 := hid hl1
      have HL2 := hid hl2
      clear hl1 hl2
      go_enter Try.func65, Try.ntmps65
      go_wp2_with fail
      clear hb1 hb2
      go_loop [19] (fun v => ∃ k : Nat, k ≤ zs.length ∧ v = .int .i64 k ∧ Hid (arcsOk n (zs.take k) (os.take k) = true)) (fun v => zs.length - (intOf v).toNat)
      case atStart => exact ⟨0, Nat.zero_le _, rfl, hid (by simp [arcsOk])⟩
      case round =>
        obtain ⟨k, hk, rfl, hall⟩ := hrel
        by_cases hlt : k < zs.length
        · have hlo : k < os.length := by have := HL1.out; have := HL2.out; omega
          obtain ⟨g, off, rfl, hFg, x, hx, rfl⟩ := HR1.out.at' hlt
          obtain ⟨g2, off2, rfl, hFg2, x2, hx2, rfl⟩ := HR2.out.at' hlo
          have hol := HOS.out _ (List.getElem_mem hlo)
          have hno := fun (h : arcOk n zs[k] os[k] = false) => hok.out.trans (arcsOk_not n k zs os hlt hlo h)
          have hlo' : (k : Int) < (os.length : Int) := by omega
          have hsn := hid (arcsOk_snoc n k zs os hlt hlo)
          have HNO := hid hno
          clear hno
          by_cases hs1 : zs[k] < -1
          · have hf := hid (HNO.out (by simp [arcOk]; omega))
            go_wp2
            go_ret
            exact ⟨bool_eq hf.out.symm, rfl⟩
          · by_cases hs2 : (n : Int) ≤ zs[k]
            · have hf := hid (HNO.out (by simp [arcOk]; omega))
              go_wp2
              go_ret
              exact ⟨bool_eq hf.out.symm, rfl⟩
            · by_cases hs3 : 4096 < os[k].length
              · have hf := hid (HNO.out (by simp [arcOk]; omega))
                have hs3' : (4096 : Int) < (os[k].length : Int) := by omega
                go_wp2
                go_ret
                exact ⟨bool_eq hf.out.symm, rfl⟩
              · have hs3' : ¬ (4096 : Int) < (os[k].length : Int) := by omega
                by_cases hs4 : zs[k] = -1
                · have hs4a : -1 ≤ zs[k] := by omega
                  have hs4b : zs[k] ≤ -1 := by omega
                  have HS4 := hid hs4
                  clear hs4
                  by_cases he : os[k] = []
                  · have he' : (!os[k].isEmpty) = false := by rw [he]; rfl
                    have hsn1 := hid (hsn.out.trans (show _ = true by rw [hall.out, HS4.out, he]; simp [arcOk]; omega))
                    clear he
                    go_wp2
                    go_round
                    case rel => exact ⟨k + 1, by omega, by go_num, hsn1⟩
                    case measure => simp [intOf]; omega
                  · have he' : (!os[k].isEmpty) = true := by simpa using he
                    have hf := hid (HNO.out (by rw [HS4.out]; simp [arcOk, he]))
                    clear he
                    go_wp2
                    go_ret
                    exact ⟨bool_eq hf.out.symm, rfl⟩
                · have hs4b : -1 < zs[k] := by omega
                  have hsn1 := hid (hsn.out.trans (show _ = true by rw [hall.out]; simp [arcOk]; omega))
                  clear hs4
                  go_wp2
                  go_round
                  case rel => exact ⟨k + 1, by omega, by go_num, hsn1⟩
                  case measure => simp [intOf]; omega
        · obtain rfl : k = zs.length := by omega
          have hyes : Hid (sRowOk n zs os = true) := by
            have h := hall.out
            have e : os.take zs.length = os := List.take_of_length_le (by rw [HL1.out, HL2.out]; omega)
            rw [List.take_length, e] at h
            exact hok.out.trans h
          clear hall
          go_wp2
          go_ret
          exact ⟨bool_eq hyes.out.symm, rfl⟩
    · have hno := hid (show sRowOk n zs os = false by unfold sRowOk; simp [hl2])
      have hb1 : ((zs.length : Int) != 256) = false := by simp; omega
      have hb2 : ((os.length : Int) != 256) = true := by simp; omega
      clear hl1 hl2
      go_enter Try.func65, Try.ntmps65
      go_wp2
      go_ret
      exact ⟨bool_eq hno.out.symm, rfl⟩
  · have hno := hid (show sRowOk n zs os = false by unfold sRowOk; simp [hl1])
    have hb1 : ((zs.length : Int) != 256) = true := by simp; omega
    clear hl1
    go_enter Try.func65, Try.ntmps65
    go_wp2
    go_ret
    exact ⟨bool_eq hno.out.symm, rfl⟩
end Go.Proofs.Ytdokeelodcckoaa.Im
