/-
  The walk over the law WarrantWritten.
-/
import Derived.Test.YtjpabeoflhkfkaaGreatDoorWarFin
import Derived.Test.YtjpabeoflhkfkaaGreatDoorWarTable
import Derived.Test.YtjpabeoflhkfkaaGreatDoorWarHdr
namespace Go.Proofs.YtjpabeoflhkfkaaGreatDoor
open Go.RowKit
attribute [local go_sem] Oper.semAt_some

/-- What a law has in hand: its boxes, and what was there before. -/
structure Lw (w W : World) (n : Net) (fr till : Int) (A : Option Addr) (c : Nat) (nx : List NsC) (D : Option Addr) (dc : Nat) (ds : List DaC) (m : Int) : Prop where
  nb : Nb w W w.heap.size n fr till A c nx D dc ds
  kw : KW W
  max : W.cell? ⟨1, 0, none⟩ = some (iV m)
theorem Lw.below {w W W' : World} {n : Net} {fr till : Int} {A : Option Addr} {c : Nat} {nx : List NsC} {D : Option Addr} {dc : Nat} {ds : List DaC} {m : Int} (h : Lw w W n fr till A c nx D dc ds m) (hb : Below W.heap.size W W') : Lw w W' n fr till A c nx D dc ds m :=
  ⟨h.nb.below hb, h.kw.below hb, cell_keepW hb h.max⟩
theorem Lw.new (w : World) {n : Net} {A : Option Addr} {nx : List NsC} {D : Option Addr} {ds : List DaC} (fr till : Int) (c dc : Nat) {m : Int} (hn : NetIn w n) (hT : Tab w A nx) (hD : DTab0 w D ds) (hk : KW w) (hm : w.cell? ⟨1, 0, none⟩ = some (iV m)) : Lw w ((w.alloc (netO n)).alloc (planO fr till A nx.length c D ds.length dc)) n fr till A c nx D dc ds m := by
  have h := Nb.new w fr till c dc hn hT hD
  exact ⟨h, hk.below h.bel, cell_keepW h.bel hm⟩
/-- Another table of promises stored into the plan's box. -/
theorem Nb.days {w W : World} {n : Net} {fr till : Int} {A : Option Addr} {c : Nat} {nx : List NsC} {D : Option Addr} {dc : Nat} {ds : List DaC} (h : Nb w W w.heap.size n fr till A c nx D dc ds) (hn : NetIn w n) (hT : Tab w A nx) {E : Option Addr} {ec : Nat} {es : List DaC}
    (hE : DTab0 (W.setCell ⟨w.heap.size + 1, 3, none⟩ (.slice E es.length ec)) E es) : Nb w (W.setCell ⟨w.heap.size + 1, 3, none⟩ (.slice E es.length ec)) w.heap.size n fr till A c nx E ec es := by
  have hb : Below w.heap.size w (W.setCell ⟨w.heap.size + 1, 3, none⟩ (.slice E es.length ec)) := h.bel.setCell (by simp) _
  exact ⟨hb, row_other h.net (by omega) _ _, row_set h.plan 3 _, hn.below hb, hT.below hb, hE⟩
theorem DTab.all {w : World} {D : Option Addr} {ds : List DaC} (h : DTab w D ds) : DTab0 w D ds := ⟨h.rd, fun r hr => ⟨(h.row r hr).1, by have := (h.row r hr).2; unfold maxLen; omega⟩⟩
end Go.Proofs.YtjpabeoflhkfkaaGreatDoor
