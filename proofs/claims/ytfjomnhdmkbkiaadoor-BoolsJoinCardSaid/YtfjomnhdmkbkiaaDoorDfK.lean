/-
  The contract of intern.key.
-/
import Derived.Test.YtfjomnhdmkbkiaaDoorDfJ
import Derived.Test.YtfjomnhdmkbkiaaDoorDfE
namespace Go.Proofs.YtfjomnhdmkbkiaaDoor.Im
open Go.RowKit Go.Lib

theorem run_string_own {w : World} {base : Nat} {v : Value} {n : Nat} {bs : List B} (hown : w.ownsRow base 5 1 v n (bs.map bV)) :
    (convert 126 9 v).run Tryd.prog w = .ok (.string ⟨bs.toArray⟩) w := by
  obtain ⟨ad, cap, rfl⟩ := own_shape hown
  cases ad with
  | none =>
    have hn : n = bs.length := by have := hown.1; simpa using this.symm
    have h0 : n = 0 := by
      rcases hown.2 with ⟨_, h⟩ | ⟨g, cap', cur, hv, _⟩
      · exact h
      · cases hv
    have hb : bs = [] := List.eq_nil_of_length_eq_zero (by omega)
    subst h0
    subst hb
    exact run_convert_bytes_string w _ _ _ none 0 cap Tryd.underlying126 Tryd.underlying5 Tryd.underlying9
  | some a => exact bytes_own_str hown ⟨_, _, rfl⟩
theorem eight_at (n : Int) (j : Nat) (hj : j < 8) : IntKind.u64.wrap n / 2 ^ (8 * j) % 256 = (((eight n)[j]'(by rw [eight_len]; exact hj)).toNat : Int) := by
  have hw : IntKind.u64.wrap n = ((n % 18446744073709551616).toNat : Int) := by
    show n % (2 ^ 64 : Int) = _
    omega
  have hlt : (n % 18446744073709551616).toNat < 18446744073709551616 := by omega
  rw [hw]
  unfold eight
  generalize (n % 18446744073709551616).toNat = m at hlt
  have key : ∀ d : Nat, ((m : Int) / (d : Int) % 256) = ((UInt8.ofNat (m / d)).toNat : Int) := fun d => by
    rw [UInt8.toNat_ofNat', ← Int.natCast_ediv]
    show ((m / d : Nat) : Int) % ((256 : Nat) : Int) = _
    rw [← Int.natCast_emod]
  obtain rfl | rfl | rfl | rfl | rfl | rfl | rfl | rfl : j = 0 ∨ j = 1 ∨ j = 2 ∨ j = 3 ∨ j = 4 ∨ j = 5 ∨ j = 6 ∨ j = 7 := by omega
  · simp
  · exact key 256
  · exact key 65536
  · exact key 16777216
  · exact key 4294967296
  · exact key 1099511627776
  · exact key 281474976710656
  · exact key 72057594037927936
theorem eight_take (n : Int) {j : Nat} (hj : j < 8) : (eight n).take (j + 1) = (eight n).take j ++ [(eight n)[j]'(by rw [eight_len]; exact hj)] := by
  rw [take_succ' _ _ (by rw [eight_len]; exact hj)]
theorem keyRow_snoc (l : List Int) (n : Int) : keyRow (l ++ [n]) = keyRow l ++ eight n := by unfold keyRow; simp
set_option maxRecDepth 100000 in
set_option maxHeartbeats 2000000 in
theorem ikey_any {F : Nat → Prop} {w : World} {v : Value} {l : List Int} (hl : IntsIn F w v l) (hF : ∀ g, F g → g < w.heap.size) (hbig : l.length ≤ 1000000) :
    Calls Tryd.prog 76 #[v] w fun e w' => e = .returned (.string ⟨(keyRow l).toArray⟩) ∧ Below w.heap.size w w' := by
  have HL := hid hl
  obtain ⟨ad, cp, rfl, _, _⟩ := hl
  obtain ⟨i0, hi, hz0, hz1, hz2⟩ := info_parts infoU8
  have HI := hid hi
  have HZ := hid (And.intro hz0 (And.intro hz1 hz2))
  clear hi hz0 hz1 hz2
  go_enter Tryd.func76, Tryd.ntmps76
  go_wp2_with (at_make; refine wpList_make_own _ rfl _ _ 126 rfl w.heap.size 5 i0 (.int .u8 0) 1 Tryd.underlying126 HI.out HZ.out.1 HZ.out.2.1 .i64 .i64 _ (8 * l.length) rfl rfl (by simp) (by rw [HZ.out.2.2]; omega) (by unfold maxLen; omega) (by simp) ?_; intro w1 hown1 hgrow1; have HO1 := hid hown1; have HG1 := hid hgrow1; clear hown1 hgrow1)
  have HB1 := hid ((Below.refl _ w).grown HG1.out (Nat.le_refl _) (fun q hq => by cases hq))
  go_loopw [3, 13] (fun p i wr => ∃ k : Nat, k ≤ l.length ∧ i = .int .i64 k ∧ wr.ownsRow w.heap.size 5 1 p (8 * k) ((keyRow (l.take k)).map bV) ∧ Below w.heap.size w wr) (fun _ i _ => l.length - (intOf i).toNat)
  case atStart => exact ⟨0, Nat.zero_le _, rfl, HO1.out, HB1.out⟩
  case round =>
    clear HO1 HB1 HG1
    obtain ⟨k, hk, rfl, hown, hbel⟩ := hrel
    obtain ⟨adp, cpp, rfl⟩ := own_shape hown
    have HO := hid hown
    clear hown
    by_cases hlt : k < l.length
    · obtain ⟨g, off, rfl, hFg, hx⟩ := ints_at (IntsIn.frame HL.out (w' := wr) (F' := F) (fun _ h => h) (fun q hq _ => hbel.block q (hF q hq))) hlt
      obtain ⟨n, hn⟩ : ∃ n, n = l[k] := ⟨_, rfl⟩
      rw [← hn] at hx
      have HN := hid hn
      clear hn
      obtain ⟨wo, rfl⟩ : ∃ wo : World, wo = wr := ⟨_, rfl⟩
      go_wp2_with fail
      go_loopw [3, 17] (fun p i wr => ∃ j : Nat, j ≤ 8 ∧ i = .int .i64 j ∧ wr.ownsRow w.heap.size 5 1 p (8 * k + j) ((keyRow (l.take k) ++ (eight n).take j).map bV) ∧ Below w.heap.size w wr) (fun _ i _ => 8 - (intOf i).toNat)
      case atStart => exact ⟨0, Nat.zero_le _, rfl, by simpa using HO.out, hbel⟩
      case round =>
        clear HO hbel hx
        obtain ⟨j, hj, rfl, hown, hbel⟩ := hrel
        obtain ⟨adp, cpp, rfl⟩ := own_shape hown
        have HO := hid hown
        clear hown
        by_cases hltj : j < 8
        · have HX := hid (eight_at n j hltj)
          have HTK := hid (eight_take n hltj)
          obtain ⟨c, hc⟩ : ∃ c, c = (eight n)[j]'(by rw [eight_len]; exact hltj) := ⟨_, rfl⟩
          rw [← hc] at HX HTK
          have hz := hbel.size
          clear hc
          go_wp2_with (at_builtin; refine wpList_append_own _ rfl _ _ 126 rfl w.heap.size 5 i0 (.int .u8 0) 1 1 Tryd.underlying126 HI.out HZ.out.1 HZ.out.2.1 HZ.out.2.2 rfl (by decide) _ _ _ rfl (HO.out.alloc _) ⟨wr.heap.size, 0, none⟩ 1 1 [bV c] rfl rfl (one_at (by rw [HX.out]; exact heap_alloc_new _ _)) (one_cell_one rfl) (by unfold maxLen; omega) (by omega) (by simp; omega) ?_; intro v' w3 hown3 hgrow3 _)
          go_roundw
          case rel => exact ⟨j + 1, by omega, by go_num, by rw [HTK.out, ← List.append_assoc, List.map_append]; exact hown3, (hbel.alloc hz _).grown hgrow3 (by simp; omega) (fun q hq => (HO.out.lt q hq).1)⟩
          case measure => simp [intOf]; omega
        · obtain rfl : j = 8 := by omega
          have HE := hid (show keyRow (l.take (k + 1)) = keyRow (l.take k) ++ (eight n).take 8 by
            rw [take_succ' _ _ hlt, keyRow_snoc, ← HN.out]; rfl)
          go_wp2
          refine And.intro ?_ ?_
          · exact ⟨k + 1, by omega, by go_num, by rw [HE.out, show 8 * (k + 1) = 8 * k + 8 by omega]; exact HO.out, hbel⟩
          · simp [intOf]; omega
    · obtain rfl : k = l.length := by omega
      have HE := hid (show l.take l.length = l from List.take_length)
      have hO := HO.out
      rw [HE.out] at hO
      have hcv := run_string_own hO
      clear hO
      go_wp2
      go_ret
      exact ⟨rfl, hbel⟩
end Go.Proofs.YtfjomnhdmkbkiaaDoor.Im
