/-
  ParseItems returns true at every three texts: the walk. (Under way.)
-/
import Derived.Test.YtcedjjlflahpcaaItmK
import Derived.Test.YtcedjjlflahpcaaItp
import Derived.Test.YtcedjjlflahpcaaAwl
import Derived.Deep.DeepCutAuto
import Derived.Deep.RegionHeld3
import Derived.Deep.RegionWith
namespace Go.Proofs.Ytcedjjlflahpcaa
open Go.RowKit Go.Lib

theorem ReadsPost.bad {s : ByteArray} {w w' : World} {e : Ending} {X : Except (Int × Int) (List It)} (h : ReadsPost s w X e w') {p y : Int} (hx : X = .error (p, y)) :
    Below w.heap.size w w' ∧ e = .returned (.tuple #[.slice none 0 0, .int .i64 p, .int .i64 y]) := by
  subst hx; exact h
theorem ReadsPost.good {s : ByteArray} {w w' : World} {e : Ending} {X : Except (Int × Int) (List It)} (h : ReadsPost s w X e w') {l : List It} (hx : X = .ok l) :
    Below w.heap.size w w' ∧ ∃ ad n, e = .returned (.tuple #[.slice ad l.length n, .int .i64 s.size, .int .i64 0]) ∧ Its w.heap.size w' l (.slice ad l.length n) := by
  subst hx
  obtain ⟨hb, v, rfl, hi⟩ := h
  obtain ⟨ad, n, rfl⟩ := hi.shape
  exact ⟨hb, ad, n, rfl, hi⟩
theorem ReadsPost.code {s : ByteArray} {w w' : World} {e : Ending} {X : Except (Int × Int) (List It)} (h : ReadsPost s w X e w') : Below w.heap.size w w' ∧ ∃ ad k n p y, e = .returned (.tuple #[.slice ad k n, .int .i64 p, .int .i64 y]) := by
  refine ⟨h.1, ?_⟩
  rcases hx : X with ⟨p, y⟩ | l
  · exact ⟨_, _, _, _, _, (h.bad hx).2⟩
  · obtain ⟨_, ad, n, e, _⟩ := h.good hx
    exact ⟨_, _, _, _, _, e⟩
abbrev stB (s t : ByteArray) : ByteArray := s ++ ⟨#[10]⟩ ++ t
abbrev dfB (r : ByteArray) : ByteArray := ⟨#[100, 101, 102, 32, 120, 32, 61, 32]⟩ ++ r ++ ⟨#[10, 59, 116, 111, 107, 101, 110, 32, 121, 61]⟩ ++ r ++ ⟨#[10, 59]⟩
theorem sizeOfL {s : ByteArray} {l : List B} (h : s.data.toList = l) : s.size = l.length := by rw [← h, Array.length_toList]; rfl
theorem stB_list (s t : ByteArray) : (stB s t).data.toList = s.data.toList ++ 10 :: t.data.toList := by simp [ByteArray.data_append]
theorem dfB_list (r : ByteArray) : (dfB r).data.toList = defL r.data.toList := by simp [ByteArray.data_append, defL]
theorem stB_size (s t : ByteArray) : (stB s t).size = s.size + t.size + 1 := by rw [sizeOfL (stB_list s t)]; simp; omega
theorem dfB_size (r : ByteArray) : (dfB r).size = 2 * r.size + 20 := by rw [sizeOfL (dfB_list r)]; simp [defL]; omega

theorem it_far (s t r : ByteArray) (w : World) (h : 1200 < s.size ∨ 1200 < t.size ∨ 500 < r.size) :
    Calls Try.prog 5 #[.string s, .string t, .string r] w fun e w' => e = .returned (.bool true) ∧ Below w.heap.size w w' := by
  by_cases h1 : 1200 < s.size
  · have h1' : (1200 : Int) < s.size := by omega
    go_enter Try.func5, Try.ntmps5
    go_wp2
    go_ret
    exact ⟨rfl, Below.refl _ _⟩
  · have h1' : ¬ (1200 : Int) < s.size := by omega
    by_cases h2 : 1200 < t.size
    · have h2' : (1200 : Int) < t.size := by omega
      go_enter Try.func5, Try.ntmps5
      go_wp2
      go_ret
      exact ⟨rfl, Below.refl _ _⟩
    · have h2' : ¬ (1200 : Int) < t.size := by omega
      have h3' : (500 : Int) < r.size := by omega
      go_enter Try.func5, Try.ntmps5
      go_wp2
      go_ret
      exact ⟨rfl, Below.refl _ _⟩

set_option maxRecDepth 100000 in
set_option maxHeartbeats 2000000 in
theorem it_bad (s t r : ByteArray) (w : World) (h1 : s.size ≤ 1200) (h2 : t.size ≤ 1200) (h3 : r.size ≤ 500) {p y : Int} (hx : parseFile s = .error (p, y)) :
    Calls Try.prog 5 #[.string s, .string t, .string r] w fun e w' => e = .returned (.bool true) ∧ Below w.heap.size w w' := by
  have h1' : (s.size : Int) ≤ 1200 := by omega
  have h2' : (t.size : Int) ≤ 1200 := by omega
  have h3' : (r.size : Int) ≤ 500 := by omega
  have hs : s.size ≤ 65536 := by omega
  have ht : t.size ≤ 65536 := by omega
  have hst : (stB s t).size ≤ 65536 := by rw [stB_size]; omega
  have hy : (y != 0) = true := by simpa using file_err hx
  have HX := hid hx
  clear hx
  have tk1 : True := trivial
  have tk2 : True := trivial
  have tk3 : True := trivial
  go_enter Try.func5, Try.ntmps5
  go_wp2_with (first | (have _t := tk1; go_at_call 10; refine (parseFile_any s _ hs).mono ?_; rintro e w1 hp1; obtain ⟨hb1, rfl⟩ := hp1.bad HX.out; clear tk1 _t) | (have _t := tk2; go_at_call 10; refine (parseFile_any t _ ht).mono ?_; rintro e w2 hp2; obtain ⟨hb2, ad2, k2, n2, p2, y2, rfl⟩ := hp2.code; clear tk2 _t) | (have _t := tk3; go_at_call 10; refine (parseFile_any (stB s t) _ hst).mono ?_; rintro e w3 hp3; obtain ⟨hb3, ad3, k3, n3, p3, y3, rfl⟩ := hp3.code; clear tk3 _t) | (go_at_call 7; refine (awake_any _).mono ?_; rintro e w4 ⟨rfl, hb4⟩))
  go_ret
  exact ⟨rfl, bnext (bnext (bnext hb1 hb2) hb3) hb4⟩
end Go.Proofs.Ytcedjjlflahpcaa
