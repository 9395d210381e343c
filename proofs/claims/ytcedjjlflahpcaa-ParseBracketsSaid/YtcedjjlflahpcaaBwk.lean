/-
  ParseBrackets returns true at every two texts: the walk, where a text is too long, or is no expression.
-/
import Derived.Test.YtcedjjlflahpcaaPer
import Derived.Test.YtcedjjlflahpcaaAwl
namespace Go.Proofs.Ytcedjjlflahpcaa
open Go.RowKit Go.Lib

set_option maxRecDepth 100000 in
set_option maxHeartbeats 1000000 in
theorem pb_far (s t : ByteArray) (w : World) (h : 700 < s.size ∨ 700 < t.size) :
    Calls Try.prog 3 #[.string s, .string t] w fun e w' => e = .returned (.bool true) ∧ Below w.heap.size w w' := by
  by_cases h1 : 700 < s.size
  · have h1' : (700 : Int) < s.size := by omega
    go_enter Try.func3, Try.ntmps3
    go_wp2
    go_ret
    exact ⟨rfl, Below.refl _ _⟩
  · have h1' : ¬ (700 : Int) < s.size := by omega
    have h2' : (700 : Int) < t.size := by omega
    go_enter Try.func3, Try.ntmps3
    go_wp2
    go_ret
    exact ⟨rfl, Below.refl _ _⟩

set_option maxRecDepth 100000 in
set_option maxHeartbeats 1000000 in
theorem pb_bad1 (s t : ByteArray) (w : World) (h1 : s.size ≤ 700) (h2 : t.size ≤ 700) {p y : Int} (hx : parseRe s = .error (p, y)) :
    Calls Try.prog 3 #[.string s, .string t] w fun e w' => e = .returned (.bool true) ∧ Below w.heap.size w w' := by
  have h1' : (s.size : Int) ≤ 700 := by omega
  have h2' : (t.size : Int) ≤ 700 := by omega
  have hs : s.size ≤ 65536 := by omega
  have ht : t.size ≤ 65536 := by omega
  have hy : (y != 0) = true := by simpa using parse_err hx
  have HX := hid hx
  clear hx
  rcases hq : parseRe t with ⟨p2, y2⟩ | q
  · have HQ := hid hq
    clear hq
    go_enter Try.func3, Try.ntmps3
    go_wp2_with (first | (go_at_call_of 6 (Value.string s); refine (parse_any s _ hs).mono ?_; rintro e w1 hp; obtain ⟨hb1, rfl⟩ := hp.bad HX.out; clear hp) | (go_at_call_of 6 (Value.string t); refine (parse_any t _ ht).mono ?_; rintro e w2 hp; obtain ⟨hb2, rfl⟩ := hp.bad HQ.out; clear hp) | (go_at_call 7; refine (awake_any _).mono ?_; rintro e w3 ⟨rfl, hb3⟩))
    go_ret
    exact ⟨rfl, bnext (bbox (bnext (bbox hb1 _) hb2) _) hb3⟩
  · have HQ := hid hq
    clear hq
    go_enter Try.func3, Try.ntmps3
    go_wp2_with (first | (go_at_call_of 6 (Value.string s); refine (parse_any s _ hs).mono ?_; rintro e w1 hp; obtain ⟨hb1, rfl⟩ := hp.bad HX.out; clear hp) | (go_at_call_of 6 (Value.string t); refine (parse_any t _ ht).mono ?_; rintro e w2 hp; obtain ⟨hb2, k2, x2, u2, ad2, n2, cap2, mn2, mx2, rfl, hr2⟩ := hp.good HQ.out; clear hp hr2) | (go_at_call 7; refine (awake_any _).mono ?_; rintro e w3 ⟨rfl, hb3⟩))
    go_ret
    exact ⟨rfl, bnext (bbox (bnext (bbox hb1 _) hb2) _) hb3⟩

set_option maxRecDepth 100000 in
set_option maxHeartbeats 1000000 in
theorem pb_bad2 (s t : ByteArray) (w : World) (h1 : s.size ≤ 700) (h2 : t.size ≤ 700) {p y : Int} (hx : parseRe t = .error (p, y)) :
    Calls Try.prog 3 #[.string s, .string t] w fun e w' => e = .returned (.bool true) ∧ Below w.heap.size w w' := by
  have h1' : (s.size : Int) ≤ 700 := by omega
  have h2' : (t.size : Int) ≤ 700 := by omega
  have hs : s.size ≤ 65536 := by omega
  have ht : t.size ≤ 65536 := by omega
  have hy : (y != 0) = true := by simpa using parse_err hx
  have HX := hid hx
  clear hx
  rcases hq : parseRe s with ⟨p2, y2⟩ | q
  · exact pb_bad1 s t w h1 h2 hq
  · have HQ := hid hq
    clear hq
    go_enter Try.func3, Try.ntmps3
    go_wp2_with (first | (go_at_call_of 6 (Value.string s); refine (parse_any s _ hs).mono ?_; rintro e w1 hp; obtain ⟨hb1, k1, x1, u1, ad1, n1, cap1, mn1, mx1, rfl, hr1⟩ := hp.good HQ.out; clear hp hr1) | (go_at_call_of 6 (Value.string t); refine (parse_any t _ ht).mono ?_; rintro e w2 hp; obtain ⟨hb2, rfl⟩ := hp.bad HX.out; clear hp) | (go_at_call 7; refine (awake_any _).mono ?_; rintro e w3 ⟨rfl, hb3⟩))
    go_ret
    exact ⟨rfl, bnext (bbox (bnext (bbox hb1 _) hb2) _) hb3⟩
end Go.Proofs.Ytcedjjlflahpcaa
