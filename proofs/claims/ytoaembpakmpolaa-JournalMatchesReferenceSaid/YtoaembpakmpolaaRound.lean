/-
  A region that draws its order inside a round of a range over a function, walked by the plain steps.
-/
import Derived.Test.YtoaembpakmpolaaSeq
import Derived.RegionTactic
import Derived.RegionIn
namespace Go.Proofs.Ytoaembpakmpolaa
open Go.RowKit

def notDefer : Op → Bool
  | .defer _ => false
  | _ => true
theorem rows_round {P : Program} {l n : Nat} {row : String} {args : Array Value} {w : World} {R : Value → World → Prop} (h : Rows P row args w R) : RowsIn (Fence.wide.inRound l) n P row args w R :=
  fun c cs _ => let ⟨v, w', r, s⟩ := h c cs; ⟨v, w', r, stepsIn_wide.2 s⟩
theorem op_round {P : Program} {l n : Nat} {o : Oper} {a : Act} {w : World} {K : Act → World → Prop} {Q : Exit → Act → World → Prop} (hd : notDefer o.op = true) (h : o.wp P a w K Q) : o.wpIn (Fence.wide.inRound l) n P a w K Q := by
  refine ⟨fun _ _ => trivial, ?_⟩
  rw [Oper.semAt_eq _ _ _ (fun c hc => by rw [hc] at hd; cases hd)]
  unfold Oper.wp at h
  generalize (execOp a.eval o).run P w = r at *
  have hdep : (Fence.wide.inRound l).depth.isSome = true → 1 ≤ n := fun h => by simp [Fence.wide] at h
  cases r with
  | ok x w' =>
    cases x <;> simp only [Oper.upon, Oper.uponIn] at h ⊢ <;>
      first
        | exact h
        | exact ⟨hdep, CallsIn.inRound l (callsIn_wide.2 h)⟩
        | exact ⟨hdep, rows_round h⟩
  | halt x w' => cases x <;> simp only [Oper.upon, Oper.uponIn] at h ⊢ <;> exact h
/-- One operation more of a region's, in whatever order: shown by the plain steps. -/
theorem ready_round {P : Program} {l n : Nat} {md : Region.Mode} {ops : Array Oper} {Q : Exit → Act → World → Prop} {fuel : Nat} {listed : Array Bool} {a : Act} {w : World} {i : Nat} {o : Oper} {rs : List Nat} (ho : ops[i]? = some o) (hd : notDefer o.op = true)
    (h : ∀ K' : Act → World → Prop, (∀ a w, wpAnyIn (Fence.wide.inRound l) n P md ops Q fuel (listed.setIfInBounds i true) a w → K' a w) → if Region.wanted o (yielded ops a.tmps) = true then Oper.wp P o a w K' Q else K' (a.put o.dst undef) w)
    (hs : AllReadyIn (Fence.wide.inRound l) n P md ops Q fuel listed a w rs) : AllReadyIn (Fence.wide.inRound l) n P md ops Q fuel listed a w (i :: rs) := fun j hj => by
  rcases List.mem_cons.1 hj with rfl | hj
  · have hh := h _ (fun _ _ h => h)
    unfold wpOpIn
    rw [ho]
    simp only
    by_cases hw : Region.wanted o (yielded ops a.tmps) = true
    · rw [if_pos hw] at hh ⊢
      exact op_round hd hh
    · rw [if_neg hw] at hh ⊢
      exact ⟨fun _ _ => trivial, hh⟩
  · exact hs j hj
theorem wp_region_round {P : Program} {l n id : Nat} {ops : Array Oper} {Q : Exit → Act → World → Prop} {a : Act} {w : World} (hm : P.follows .mixedOrders = true)
    (h : wpAnyIn (Fence.wide.inRound l) n P .any ops Q ops.size (Array.replicate ops.size false) a w.drew) : (Code.region id ops true).wpIn (Fence.wide.inRound l) n P Q a w :=
  wpIn_region_any hm h
end Go.Proofs.Ytoaembpakmpolaa
