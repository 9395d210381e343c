/-
  What a world keeps where two rows alone may have grown.
-/
import Derived.Test.YtdokeelodcckoaaImgP
namespace Go.Proofs.Ytdokeelodcckoaa.Im
open Go.RowKit Go.Lib

/-- w' is w with new blocks, and with writes to the blocks a and b alone -/
structure Gr (a b : Option Nat) (w w' : World) : Prop where
  os : w'.os = w.os
  tape : w'.tape = w.tape
  output : w'.output = w.output
  size : w.heap.size ≤ w'.heap.size
  block : ∀ g, g < w.heap.size → a ≠ some g → b ≠ some g → w'.heap[g]? = w.heap[g]?
theorem Gr.refl (a b : Option Nat) (w : World) : Gr a b w w := ⟨rfl, rfl, rfl, Nat.le_refl _, fun _ _ _ _ => rfl⟩
theorem Gr.drew {a b : Option Nat} {w w' : World} (h : Gr a b w w') : Gr a b w w'.drew := ⟨h.os, h.tape, h.output, h.size, h.block⟩
theorem Gr.alloc {a b : Option Nat} {w w' : World} (h : Gr a b w w') (o : Obj) : Gr a b w (w'.alloc o) :=
  ⟨h.os, h.tape, h.output, by rw [World.size_alloc]; exact Nat.le_succ_of_le h.size, fun g hg ha hb => (alloc_old (Nat.lt_of_lt_of_le hg h.size)).trans (h.block g hg ha hb)⟩
theorem Gr.grown {a b : Option Nat} {w w' w'' : World} {row : Option Nat} (h : Gr a b w w') (hg : w'.grownBy w'' row) (hr : ∀ g, g < w.heap.size → row = some g → a = some g ∨ b = some g) : Gr a b w w'' :=
  ⟨hg.os.trans h.os, hg.tape.trans h.tape, hg.output.trans h.output, Nat.le_trans h.size hg.size, fun g hl ha hb =>
    (hg.block g (Nat.lt_of_lt_of_le hl h.size) (fun e => (hr g hl e.symm).elim ha hb)).trans (h.block g hl ha hb)⟩
theorem Gr.wide {a b : Option Nat} {w w' : World} (h : Gr a none w w') : Gr a b w w' := ⟨h.os, h.tape, h.output, h.size, fun g hg ha _ => h.block g hg ha (by simp)⟩
theorem Gr.below {a b : Option Nat} {D : Nat} {w w' : World} (h : Gr a b w w') (hD : D ≤ w.heap.size) (ha : ∀ g, a = some g → D ≤ g) (hb : ∀ g, b = some g → D ≤ g) : Below D w w' :=
  ⟨h.os, h.tape, h.output, h.size, fun g hg => h.block g (by omega) (fun e => by have := ha g e; omega) (fun e => by have := hb g e; omega)⟩
/-- a row is kept where its own block is -/
theorem own_blk {w w' : World} {base e size n : Nat} {v : Value} {xs : List Value} (h : w.ownsRow base e size v n xs) (hk : ∀ g, v.ownBlock = some g → w'.heap[g]? = w.heap[g]?) : w'.ownsRow base e size v n xs := by
  refine ⟨h.1, ?_⟩
  rcases h.2 with h' | ⟨g, cap, cur, h1, h2, h3, h4⟩
  · exact .inl h'
  · exact .inr ⟨g, cap, cur, h1, h2, by rw [hk g (by rw [h1]; rfl)]; exact h3, h4⟩
theorem own_lt {w : World} {base e size n g : Nat} {v : Value} {xs : List Value} (h : w.ownsRow base e size v n xs) (hg : v.ownBlock = some g) : base ≤ g ∧ g < w.heap.size := by
  have := h.lt g hg
  exact ⟨this.1, this.2⟩
theorem Gr.own {a b : Option Nat} {w w' : World} {base e size n : Nat} {v : Value} {xs : List Value} (k : Gr a b w w') (h : w.ownsRow base e size v n xs) (ha : ∀ g, v.ownBlock = some g → a ≠ some g) (hb : ∀ g, v.ownBlock = some g → b ≠ some g) : w'.ownsRow base e size v n xs :=
  own_blk h fun g hg => k.block g (own_lt h hg).2 (ha g hg) (hb g hg)
/-- rows of two tags lie apart -/
theorem own_apart {w : World} {base base' e e' n n' : Nat} {v v' : Value} {xs ys : List Value} (h : w.ownsRow base e 1 v n xs) (h' : w.ownsRow base' e' 1 v' n' ys) (he : e ≠ e') : ∀ g, v.ownBlock = some g → v'.ownBlock ≠ some g := by
  intro g hg hg'
  obtain ⟨cur, hc⟩ := own_tag h hg
  obtain ⟨cur', hc'⟩ := own_tag h' hg'
  rw [hc] at hc'
  cases hc'
  exact he rfl
theorem own_blk_set {w : World} {base e n D i : Nat} {v u : Value} {xs : List Value} (h : w.ownsRow base e 1 v n xs) (hD : D < base) : (w.setCell ⟨D, i, none⟩ u).ownsRow base e 1 v n xs :=
  own_blk h fun g hg => heap_setCell_other _ _ _ _ (by have := (own_lt h hg).1; simp; omega)
theorem Gr.all {a b : Option Nat} {w w' : World} (h : Gr none none w w') : Gr a b w w' := ⟨h.os, h.tape, h.output, h.size, fun g hg _ _ => h.block g hg (by simp) (by simp)⟩
theorem Gr.own0 {w w' : World} {base e size n : Nat} {v : Value} {xs : List Value} (k : Gr none none w w') (h : w.ownsRow base e size v n xs) : w'.ownsRow base e size v n xs := k.own h (fun _ _ => by simp) (fun _ _ => by simp)
theorem one_at {W : World} {b : Nat} {x : Value} {T : TypeId} (h : W.heap[b]? = some (.cells #[x] T (0, 0))) : ∀ (j : Nat) (u : Value), [x][j]? = some u → W.cell? ((⟨b, 0, none⟩ : Addr).add j) = some u := by
  intro j u hj
  match j, hj with
  | 0, hj => cases hj; exact cell_blk h rfl
/-- the row that has grown first is kept while the other grows -/
theorem own_second {wr X Y Z : World} {base e n g cap : Nat} {va vb : Value} {xs : List Value} (hg : Y.grownBy Z vb.ownBlock) (h : Y.ownsRow base e 1 (.slice (some ⟨g, 0, none⟩) n cap) n xs) (hat : va.ownBlock = some g ∨ g = X.heap.size) (hX : wr.heap.size ≤ X.heap.size) (hab : ∀ g, va.ownBlock = some g → vb.ownBlock ≠ some g) (hb : ∀ g, vb.ownBlock = some g → g < wr.heap.size) : Z.ownsRow base e 1 (.slice (some ⟨g, 0, none⟩) n cap) n xs :=
  own_blk h fun g' hg' => hg.block g' (own_lt h hg').2 fun e => by
    cases hg'
    rcases hat with h1 | h1
    · exact hab _ h1 e.symm
    · have h2 : g < wr.heap.size := hb _ e.symm
      omega
end Go.Proofs.Ytdokeelodcckoaa.Im
