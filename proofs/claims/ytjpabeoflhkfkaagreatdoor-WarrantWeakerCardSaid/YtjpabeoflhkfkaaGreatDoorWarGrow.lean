/-
  A list of numbers that grows while other blocks are read; the lengths of a certificate's parts.
-/
import Derived.Test.YtjpabeoflhkfkaaGreatDoorWarNums
import Derived.Test.YtjpabeoflhkfkaaGreatDoorWarOwn
namespace Go.Proofs.YtjpabeoflhkfkaaGreatDoor
open Go.RowKit

/-- The list's own block, and all that is as it was in a world wb. -/
structure NB (wb wr : World) (out : Value) (l : List Int) : Prop where
  own : wr.ownsRow wb.heap.size 3 1 out l.length (l.map iV)
  bel : Below wb.heap.size wb wr
/-- All blocks of a world wc but one are as they were. -/
structure NG (wc : World) (row : Option Nat) (wr : World) (out : Value) : Prop where
  gb : wc.grownBy wr row
  at_ : ∀ j, out.ownBlock = some j → wc.heap.size ≤ j ∨ row = some j
theorem NB.eq {wb wr : World} {out : Value} {l m : List Int} (h : NB wb wr out l) (e : l = m) : NB wb wr out m := e ▸ h
theorem NB.below {wb wr w' : World} {out : Value} {l : List Int} (h : NB wb wr out l) (hb : Below wr.heap.size wr w') : NB wb w' out l := ⟨own_below h.own hb, bt h.bel hb⟩
theorem NB.slice {wb wr : World} {out : Value} {l : List Int} (h : NB wb wr out l) : ∃ A c, out = .slice A l.length c := own_slice h.own
theorem NB.app {wb wr w3 : World} {ua : Option Addr} {uc g cap : Nat} {l : List Int} {y : Int} (h : NB wb wr (.slice ua l.length uc) l) (own1 : w3.ownsRow wb.heap.size 3 1 (.slice (some ⟨g, 0, none⟩) (l.length + 1) cap) (l.length + 1) (l.map iV ++ [iV y]))
    (hgrow : (wr.alloc (.cells #[iV y] 3)).grownBy w3 (Value.slice ua l.length uc).ownBlock) : NB wb w3 (.slice (some ⟨g, 0, none⟩) (l.length + 1) cap) (l ++ [y]) := by
  have hs := h.bel.size
  exact ⟨by simpa using own1, (h.bel.trans ((ba wr _).mono hs)).grown hgrow (by simp; omega) (fun q e => by
    have e' : Value.ownBlock (.slice ua l.length uc) = some q := e
    exact own_ge h.own e')⟩
theorem NG.start (wc : World) (out : Value) : NG wc out.ownBlock wc out := ⟨grown_of_below (Below.refl _ _) _, fun _ e => .inr e⟩
theorem NG.below {wc wr w' : World} {row : Option Nat} {out : Value} (h : NG wc row wr out) (hb : Below wr.heap.size wr w') : NG wc row w' out := ⟨h.gb.andThen (grown_of_below hb none) (fun j e => by cases e), h.at_⟩
theorem NG.app {wc wr w3 : World} {row : Option Nat} {out : Value} {g cap n : Nat} {o : Obj} (h : NG wc row wr out) (hgrow : (wr.alloc o).grownBy w3 out.ownBlock) (hat : out.ownBlock = some g ∨ g = wr.heap.size + 1) : NG wc row w3 (.slice (some ⟨g, 0, none⟩) n cap) := by
  refine ⟨(h.gb.andThen (World.grownBy_alloc wr o none) (fun j e => by cases e)).andThen hgrow h.at_, fun j e => ?_⟩
  obtain rfl : g = j := Option.some.inj e
  rcases hat with hat | hat
  · exact h.at_ g hat
  · have := h.gb.size
    exact .inl (by omega)
theorem NG.step {wc wv wr : World} {row : Option Nat} {out0 out : Value} (h : NG wc row wv out0) (k : NG wv out0.ownBlock wr out) : NG wc row wr out := by
  refine ⟨h.gb.andThen k.gb h.at_, fun j e => ?_⟩
  rcases k.at_ j e with h1 | h1
  · have := h.gb.size
    exact .inl (by omega)
  · exact h.at_ j h1
theorem NG.rd {wc wr : World} {row : Option Nat} {out : Value} {A : Option Addr} {xs : List Value} (h : NG wc row wr out) (hr : Rd wc A xs) (hne : ∀ a, A = some a → row ≠ some a.block) : Rd wr A xs :=
  hr.same h.gb.size (fun a ha hlt => h.gb.block a.block hlt (fun e => hne a ha e.symm))
end Go.Proofs.YtjpabeoflhkfkaaGreatDoor
