/-
  A slice of items in memory, wherever it lies; what the sizes of a right item's parts are.
-/
import Derived.Test.YtfljcfdfgojdoaaGreatDoorAa45
import Derived.Test.YtfljcfdfgojdoaaGreatDoorAa42
namespace Go.Proofs.YtfljcfdfgojdoaaGreatDoor.Sh
open Go.RowKit Go.Lib Go.Proofs.YtfljcfdfgojdoaaGreatDoor

structure ItsR (F : Nat → Prop) (w : World) (l : List It) (ad : Option Addr) : Prop where
  len : l.length ≤ maxLen
  at' : l ≠ [] → ∃ g off, ad = some ⟨g, off, none⟩ ∧ F g ∧ ∀ i x, l[i]? = some x → ∃ y : Iw, ItG F w x y ∧ w.rangeAt g (off + i * 46) y.cs.toList
theorem ItsR.below {F : Nat → Prop} {w w' : World} {base : Nat} {l : List It} {ad : Option Addr} (h : ItsR F w l ad) (hF : ∀ g, F g → g < base) (_hbw : base ≤ w.heap.size) (hb : Below base w w') : ItsR F w' l ad := by
  refine ⟨h.len, fun hl => ?_⟩
  obtain ⟨g, off, e, hg, hp⟩ := h.at' hl
  refine ⟨g, off, e, hg, fun i x hi => ?_⟩
  obtain ⟨y, h1, h2⟩ := hp i x hi
  refine ⟨y, ⟨h1.k, h1.nm, h1.r.below hF hb, h1.m.below hF hb, h1.o, h1.b, h1.ar, h1.l.below hF hb, h1.q.below hF hb⟩, fun j v hv => ?_⟩
  exact (hb.cell (p := ⟨g, off + i * 46 + j, none⟩) (hF g hg)).trans (h2 j v hv)
theorem ItsG.r {F : Nat → Prop} {w : World} {l : List It} {v : Value} (h : Go.Proofs.YtfljcfdfgojdoaaGreatDoor.ItsG F w l v) : ∃ ad cap, v = .slice ad l.length cap ∧ ItsR F w l ad := by
  obtain ⟨ad, cap, rfl, ho⟩ := h.open
  refine ⟨ad, cap, rfl, ?_⟩
  rcases ho with ⟨rfl, rfl⟩ | ⟨g, rfl, _, hF, h1, h2, hp⟩
  · exact ⟨Nat.zero_le _, fun h => absurd rfl h⟩
  · refine ⟨Nat.le_trans h1 h2, fun _ => ⟨g, 0, rfl, hF, fun i x hi => ?_⟩⟩
    obtain ⟨r, m, y, q, a1, a2, a3, a4, a5⟩ := hp i x hi
    refine ⟨⟨x.kind, x.name, r, m, x.out, x.by_, x.around, y, q⟩, ⟨rfl, rfl, ReG.ofIn a2, MpG.ofIn a3, rfl, rfl, rfl, ReG.ofIn a4, ReG.ofIn a5⟩, ?_⟩
    rw [Nat.zero_add]
    exact a1
/-- texts of what is in an item -/
structure TxIt (x : It) : Prop where
  r : TxRe x.re
  l : TxRe x.left
  q : TxRe x.right
  m : TxMp x.map
  n : x.name.length ≤ 140737488351232
  b : x.by_.length ≤ 140737488351232
structure SeIt (x : It) : Prop where
  r : SeRe x.re
  l : SeRe x.left
  q : SeRe x.right
  m : SeMp x.map
/-- an item of bounded depth and length -/
structure SmIt (x : It) : Prop where
  d : itemD x ≤ 1000000
  n : (itemW setS x).length ≤ 1099511627776
theorem TxRe.ofOk : ∀ {n : Nat} {r : Re}, OkRe n r → TxRe r
  | 0, r, h => by simp [OkRe] at h
  | n + 1, .mk k x s ps mn mx, h => by
    have h' : Node k x s ps.length mn mx ∧ ∀ p ∈ ps, OkRe n p := by simpa [OkRe] using h
    have ih : ∀ p ∈ ps, TxRe p := fun p hp => TxRe.ofOk (h'.2 p hp)
    obtain ⟨hn, _⟩ := h'
    refine .mk _ _ _ _ _ _ ?_ ih
    generalize ps.length = m at hn
    cases hn <;> first | (simp; done) | omega
theorem TxRe.leaf {r : Re} (h : LeafR r) : TxRe r := by
  obtain ⟨k, x, s, hn, _⟩ := h
  refine .mk _ _ _ _ _ _ ?_ fun p hp => by cases hp
  cases hn <;> first | (simp; done) | omega
theorem TxRe.zero : TxRe Re.zero := .mk _ _ _ _ _ _ (by simp) fun p hp => by cases hp
theorem TxMp.ofOk : ∀ {n : Nat} {r : Mp}, OkMp n r → TxMp r
  | 0, r, h => by simp [OkMp] at h
  | n + 1, .mk k r o ps mn mx, h => by
    have h' : MNode k r o ps.length mn mx ∧ ∀ p ∈ ps, OkMp n p := by simpa [OkMp] using h
    have ih : ∀ p ∈ ps, TxMp p := fun p hp => TxMp.ofOk (h'.2 p hp)
    obtain ⟨hn, _⟩ := h'
    generalize ps.length = m at hn
    cases hn with
    | same r h2 => exact .mk _ _ _ _ _ _ (TxRe.leaf h2) (by simp) ih
    | out r o h2 ho => exact .mk _ _ _ _ _ _ (TxRe.leaf h2) (by omega) ih
    | cat n h => exact .mk _ _ _ _ _ _ TxRe.zero (by simp) ih
    | alt n h => exact .mk _ _ _ _ _ _ TxRe.zero (by simp) ih
    | rep a b h => exact .mk _ _ _ _ _ _ TxRe.zero (by simp) ih
theorem TxMp.zero : TxMp Mp.zero := .mk _ _ _ _ _ _ TxRe.zero (by simp) fun p hp => by cases hp
theorem TxIt.ofRt {x : It} (h : RtIt x) : TxIt x := by
  have nl : ∀ {s : List B}, nameOk s = true → s.length ≤ 140737488351232 := fun h => by
    have := name_len (nameOk_iff.1 h)
    omega
  have bl : ∀ {o b : List B}, (b = [] ∨ (o = [] ∧ nameOk b = true)) → b.length ≤ 140737488351232 := fun h => by
    rcases h with rfl | ⟨_, h⟩
    · simp
    · exact nl h
  cases h with
  | named k s r hk hs hr => exact ⟨TxRe.ofOk hr, TxRe.zero, TxRe.zero, TxMp.zero, nl hs, by simp⟩
  | map s m hs hm => exact ⟨TxRe.zero, TxRe.zero, TxRe.zero, TxMp.ofOk hm, nl hs, by simp⟩
  | rule r o b hr ho hb => exact ⟨TxRe.ofOk hr, TxRe.zero, TxRe.zero, TxMp.zero, by simp, bl hb⟩
  | around r o b l q hr ho hb hl hq => exact ⟨TxRe.ofOk hr, TxRe.ofOk hl, TxRe.ofOk hq, TxMp.zero, by simp, bl hb⟩
end Go.Proofs.YtfljcfdfgojdoaaGreatDoor.Sh
