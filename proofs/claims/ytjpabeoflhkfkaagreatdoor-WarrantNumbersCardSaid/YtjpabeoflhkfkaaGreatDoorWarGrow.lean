/-
  A list of numbers that grows while other blocks are read; the lengths of a certificate's parts.
-/
import Derived.Test.YtjpabeoflhkfkaaGreatDoorWarNums
import Derived.Test.YtjpabeoflhkfkaaGreatDoorWarOwn
namespace Go.Proofs.YtjpabeoflhkfkaaGreatDoor
open Go.RowKit

/-- The list's own block, and all that is as it was in a world wb. -/
structure NB (wb wr : World) (out : Value) (l : List Int) : Prop where
  own : wr.ownsRow wb.heap.size 3 1 out l.length (l.map iV)
  bel : Below wb.heap.size wb wr
/-- All blocks of a world wc but one are as they were. -/
structure NG (wc : World) (row : Option Nat) (wr : World) (out : Value) : Prop where
  gb : wc.grownBy wr row
  at_ : ∀ j, out.ownBlock = some j → wc.heap.size ≤ j ∨ row = some j
theorem NB.eq {wb wr : World} {out : Value} {l m : List Int} (h : NB wb wr out l) (e : l = m) : NB wb wr out m := e ▸ h
theorem NB.below {wb wr w' : World} {out : Value} {l : List Int} (h : NB wb wr out l) (hb : Below wr.heap.size wr w') : NB wb w' out l := ⟨own_below h.own hb, bt h.bel hb⟩
theorem NB.slice {wb wr : World} {out : Value} {l : List Int} (h : NB wb wr out l) : ∃ A c, out = .slice A l.length c := own_slice h.own
theorem NB.app {wb wr w3 : World} {ua : Option Addr} {uc g cap : Nat} {l : List Int} {y : Int} (h : NB wb wr (.slice ua l.length uc) l) (own1 : w3.ownsRow wb.heap.size 3 1 (.slice (some ⟨g, 0, none⟩) (l.length + 1) cap) (l.length + 1) (l.map iV ++ [iV y]))
    (hgrow : (wr.alloc (.cells #[iV y] 3)).grownBy w3 (Value.slice ua l.length uc).ownBlock) : NB wb w3 (.slice (some ⟨g, 0, none⟩) (l.length + 1) cap) (l ++ [y]) := by
  have hs := h.bel.size
  exact ⟨by simpa using own1, (h.bel.trans ((ba wr _).mono hs)).grown hgrow (by simp; omega) (fun q e => by
    have e' : Value.ownBlock (.slice ua l.length uc) = some q := e
    exact own_ge h.own e')⟩
theorem NG.start (wc : World) (out : Value) : NG wc out.ownBlock wc out := ⟨grown_of_below (Below.refl _ _) _, fun _ e => .inr e⟩
theorem NG.below {wc wr w' : World} {row : Option Nat} {out : Value} (h : NG wc row wr out) (hb : Below wr.heap.size wr w') : NG wc row w' out := ⟨h.gb.andThen (grown_of_below hb none) (fun j e => by cases e), h.at_⟩
theorem NG.app {wc wr w3 : World} {row : Option Nat} {out : Value} {g cap n : Nat} {o : Obj} (h : NG wc row wr out) (hgrow : (wr.alloc o).grownBy w3 out.ownBlock) (hat : out.ownBlock = some g ∨ g = wr.heap.size + 1) : NG wc row w3 (.slice (some ⟨g, 0, none⟩) n cap) := by
  refine ⟨(h.gb.andThen (World.grownBy_alloc wr o none) (fun j e => by cases e)).andThen hgrow h.at_, fun j e => ?_⟩
  obtain rfl : g = j := Option.some.inj e
  rcases hat with hat | hat
  · exact h.at_ g hat
  · have := h.gb.size
    exact .inl (by omega)
theorem NG.step {wc wv wr : World} {row : Option Nat} {out0 out : Value} (h : NG wc row wv out0) (k : NG wv out0.ownBlock wr out) : NG wc row wr out := by
  refine ⟨h.gb.andThen k.gb h.at_, fun j e => ?_⟩
  rcases k.at_ j e with h1 | h1
  · have := h.gb.size
    exact .inl (by omega)
  · exact h.at_ j h1
theorem NG.step' {wc wv wr : World} {row row1 : Option Nat} {out0 out : Value} (h : NG wc row wv out0) (e : out0.ownBlock = row1) (k : NG wv row1 wr out) : NG wc row wr out := by
  subst e
  exact h.step k
theorem NG.rd {wc wr : World} {row : Option Nat} {out : Value} {A : Option Addr} {xs : List Value} (h : NG wc row wr out) (hr : Rd wc A xs) (hne : ∀ a, A = some a → row ≠ some a.block) : Rd wr A xs :=
  hr.same h.gb.size (fun a ha hlt => h.gb.block a.block hlt (fun e => hne a ha e.symm))
theorem wayL_app (n : Net) (nx : List NsC) (fr : Int) (o d : Nat) (l m : List Int) : wayL n nx fr o d (l ++ m) = wayL n nx fr o d l ++ wayL n nx fr o d m := by unfold wayL; rw [List.flatMap_append]
theorem wayL_take {n : Net} {nx : List NsC} {fr : Int} {o d : Nat} {L : List Int} {i : Nat} {t : Int} (h : L[i]? = some t) : wayL n nx fr o d (L.take (i + 1)) = wayL n nx fr o d (L.take i) ++ daysW n fr (wayR n nx d 19 o t).2 := by
  rw [take_one h, wayL_app]
  congr 1
  unfold wayL
  simp
/-- What has been written is part of the whole. -/
theorem part_le {n : Net} {nx : List NsC} {fr till : Int} {H : List Int} {all done rest : List Pr} {p : Pr} (ha : all = done ++ p :: rest) (hp : p.pr ≠ -1) {i j : Nat} {t : Int} (ht : (cutsOf n p.k p.o fr till)[i]? = some t) (hl : (H ++ all.flatMap (numsP n nx fr till)).length ≤ 40000) :
    (((H ++ done.flatMap (numsP n nx fr till)) ++ wayL n nx fr p.o p.d ((cutsOf n p.k p.o fr till).take i)) ++ (daysW n fr (wayR n nx p.d 19 p.o t).2).take j).length ≤ 40000 := by
  have e : numsP n nx fr till p = wayL n nx fr p.o p.d ((cutsOf n p.k p.o fr till).take i) ++ daysW n fr (wayR n nx p.d 19 p.o t).2 ++ wayL n nx fr p.o p.d ((cutsOf n p.k p.o fr till).drop (i + 1)) := by
    unfold numsP
    rw [if_neg hp, ← wayL_take ht, ← wayL_app, List.take_append_drop]
  rw [ha] at hl
  simp only [List.flatMap_append, List.flatMap_cons, e, List.length_append] at hl
  simp only [List.length_append, List.length_take]
  omega
theorem nums_step {n : Net} {nx : List NsC} {fr till : Int} {H : List Int} {done : List Pr} {p : Pr} (l : List Int) (h : l = numsP n nx fr till p) : (H ++ done.flatMap (numsP n nx fr till)) ++ l = H ++ (done ++ [p]).flatMap (numsP n nx fr till) := by
  rw [h]
  simp
theorem daysW_len (n : Net) (fr : Int) (l : List St) : (daysW n fr l).length = l.length - 1 := by unfold daysW; simp
theorem daysW_at {n : Net} {fr : Int} {l : List St} {j : Nat} {s : St} (h : l[j]? = some s) (hj : j + 1 < l.length) : (daysW n fr l)[j]? = some (dayOf (calAt n s.office.toNat) s.depart + (2 - fr)) ∧ s ∈ l.dropLast := by
  have hd : l.dropLast[j]? = some s := by
    rw [List.getElem?_eq_getElem (by simp; omega), List.getElem_dropLast]
    obtain ⟨h1, h2⟩ := List.getElem?_eq_some_iff.1 h
    rw [h2]
  refine ⟨?_, List.mem_of_getElem? hd⟩
  unfold daysW
  rw [List.getElem?_map, hd]
  rfl
end Go.Proofs.YtjpabeoflhkfkaaGreatDoor
