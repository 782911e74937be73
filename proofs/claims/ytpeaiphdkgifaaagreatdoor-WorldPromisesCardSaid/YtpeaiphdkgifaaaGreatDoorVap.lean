/- Regions that draw their order and store into cells which they have -/
import Derived.Test.YtpeaiphdkgifaaaGreatDoorVaj
import Derived.OrdersHeld
import Derived.Deep.RegionHeld
import Derived.Test.YtpeaiphdkgifaaaGreatDoorVaa
import Derived.Maps.AppendAt
import Derived.Deep.AppendLies
import Derived.Laws.EntriesVeiled
import Derived.RecoverIn
import Derived.OwnWalk
namespace Go.Proofs.YtpeaiphdkgifaaaGreatDoor
open Go.RowKit
set_option maxHeartbeats 20000000
set_option maxRecDepth 100000
section
variable {P : Program} {ops : Array Oper} {Q : Exit -> Act -> World -> Prop} {md : Region.Mode} {S : World -> Prop} {j0 : Nat}
def mV (S : World -> Prop) (j0 : Nat) (listed : Array Bool) (w : World) : Prop := listed.getD j0 true = true ∨ S w
def cI (P : Program) (md : Region.Mode) (ops : Array Oper) (Q : Exit -> Act -> World -> Prop) (S : World -> Prop) (j0 : Nat) : Nat -> Array Bool -> Act -> World -> Prop
 | 0, listed, a, w => Region.ready md ops listed = [] /\ Q .normal a w
 | fuel + 1, listed, a, w =>
  (Region.ready md ops listed = [] -> Q .normal a w) /\
  ∀ i ∈ Region.ready md ops listed, wpOp P ops Q i (fun a' w' => mV S j0 (listed.setIfInBounds i true) w' /\ cI P md ops Q S j0 fuel (listed.setIfInBounds i true) a' w') a w
theorem jN : ∀ (fuel : Nat) (listed : Array Bool) (a : Act) (w : World), cI P md ops Q S j0 fuel listed a w -> wpAny P md ops Q fuel listed a w
 | 0, _, _, _, h => h
 | fuel + 1, _, _, _, h => ⟨h.1, fun i hi => wpOp_mono (fun a' w' h' => jN fuel _ a' w' h'.2) (h.2 i hi)⟩
theorem jE : ∀ (fuel : Nat) (listed : Array Bool) (a : Act) (w : World), listed.getD j0 true = true -> wpAny P md ops Q fuel listed a w -> cI P md ops Q S j0 fuel listed a w
 | 0, _, _, _, _, h => h
 | fuel + 1, listed, a, w, hj, h => ⟨h.1, fun i hi => wpOp_mono (fun a' w' h' => by
   have h2 : (listed.setIfInBounds i true).getD j0 true = true := by
    by_cases hij : i = j0
    ·subst hij
     rcases Nat.lt_or_ge i listed.size with h' | h'
     ·simp [h']
     ·simp
    ·rw [getD_set_ne true hij]; exact hj
   exact ⟨.inl h2, jE fuel _ a' w' h2 h'⟩) (h.2 i hi)⟩
def jy (md : Region.Mode) (ops : Array Oper) (listed : Array Bool) : Prop := ∀ (j : Nat) (oj : Oper), ops[j]? = some oj -> listed.getD j false = true -> ∀ e ∈ oj.after, Region.binds md e = true -> listed.getD e.on false = true
def lW (md : Region.Mode) (ops : Array Oper) (listed : Array Bool) : Bool := (List.range ops.size).all fun j => !listed.getD j false || match ops[j]? with
 | none => true
 | some o => o.after.all fun e => !Region.binds md e || listed.getD e.on false
theorem oX {listed : Array Bool} (h : lW md ops listed = true) : jy md ops listed := by
 intro j oj hj hl e he hb
 unfold lW at h
 simp only [List.all_eq_true, List.mem_range] at h
 have h1 := h j (Array.getElem?_eq_some_iff.1 hj).1
 rw [hj, hl] at h1
 simp only [Bool.not_true, Bool.false_or] at h1
 have h2 := Array.all_eq_true_iff_forall_mem.1 h1 e he
 rw [hb] at h2
 simpa using h2
theorem jy.step {listed : Array Bool} (h : jy md ops listed) {j : Nat} (hj : j ∈ Region.ready md ops listed) : jy md ops (listed.setIfInBounds j true) := by
 intro k ok hk hl e he hb
 by_cases hkj : j = k
 ·subst hkj
  obtain ⟨-, oj, hoj, hall⟩ := mem_ready.1 hj
  rw [hk] at hoj
  cases hoj
  exact getD_set_true (hall e he hb)
 ·rw [getD_set_ne false hkj] at hl
  exact getD_set_true (h k ok hk hl e he hb)
def jT (md : Region.Mode) (ops : Array Oper) : Nat -> Nat -> Nat -> Bool
 | 0, _, _ => false
 | f + 1, j, i => match ops[j]? with
  | none => false
  | some o => o.after.any fun e => Region.binds md e && (e.on == i || jT md ops f e.on i)
theorem mn {listed : Array Bool} (h : jy md ops listed) {i : Nat} : ∀ (f j : Nat) (oj : Oper), ops[j]? = some oj -> (∀ e ∈ oj.after, Region.binds md e = true -> listed.getD e.on false = true) -> jT md ops f j i = true -> listed.getD i false = true
 | 0, _, _, _, _, h => by cases h
 | f + 1, j, oj, hj, hall, hr => by
  unfold jT at hr
  rw [hj] at hr
  obtain ⟨e, he, hb⟩ := Array.any_eq_true'.1 hr
  simp only [Bool.and_eq_true, Bool.or_eq_true, beq_iff_eq] at hb
  obtain ⟨hb1, hb2⟩ := hb
  have h1 := hall e he hb1
  rcases hb2 with rfl | hb2
  ·exact h1
  ·cases ho : ops[e.on]? with
   | none =>
    cases f with
    | zero => cases hb2
    | succ f => unfold jT at hb2; rw [ho] at hb2; cases hb2
   | some ok => exact mn h f e.on ok ho (h e.on ok ho h1) hb2
theorem oz {i : Nat} {oi : Oper} {v : Value} {F : Nat} (hi : ops[i]? = some oi) (hdep : jT md ops F j0 i = true) (hsel : ∀ (j : Nat) (o : Oper) cs b, ops[j]? = some o -> o.op ≠ .select cs b)
  (hQ : ∀ c a w, Q (.panic c) (a.put oi.dst v) w -> Q (.panic c) a w) :
  ∀ (fuel : Nat) (listed : Array Bool) (a : Act) (w : World), listed.getD j0 true = false -> i ≠ j0 -> jy md ops listed ->
   (∀ j oj, ops[j]? = some oj -> j ≠ i -> listed.getD j true = false -> (∀ e ∈ oj.after, Region.binds md e = true -> e.on ≠ i) -> oi.apart ops oj = true) ->
   i ∈ Region.ready md ops listed -> YieldsIf P ops S oi v a -> S w ->
   cI P md ops Q S j0 fuel (listed.setIfInBounds i true) (a.put oi.dst v) w -> cI P md ops Q S j0 (fuel + 1) listed a w := by
 intro fuel
 induction fuel with
 | zero =>
  intro listed a w _ _ _ _ hr hy hS H
  refine ⟨fun h => (by rw [h] at hr; cases hr), fun j hj => ?_⟩
  by_cases hji : j = i
  ·subst hji; exact hy.wpOp hi hS ⟨.inr hS, H⟩
  ·have := ready_mono hj hji
   rw [H.1] at this
   cases this
 | succ fuel ih =>
  intro listed a w hl0 hi0 hcl hfree hr hy hS H
  refine ⟨fun h => (by rw [h] at hr; cases hr), fun j hj => ?_⟩
  by_cases hji : j = i
  ·subst hji; exact hy.wpOp hi hS ⟨.inr hS, H⟩
  ·have h1 := H.2 j (ready_mono hj hji)
   obtain ⟨hjun, oj, hoj, hall⟩ := mem_ready.1 hj
   have hnot : ∀ e ∈ oj.after, Region.binds md e = true -> e.on ≠ i := fun e he hb heq => by
    have h1 := hall e he hb
    have h0 := (mem_ready.1 hr).1
    rw [heq] at h1
    rcases Nat.lt_or_ge i listed.size with h' | h'
    ·simp [h'] at h0 h1; rw [h0] at h1; cases h1
    ·simp [Array.getElem?_eq_none h'] at h1
   have hj0 : j ≠ j0 := fun e => by
    subst e
    have h3 := mn hcl F j oj hoj hall hdep
    have h0 := (mem_ready.1 hr).1
    rcases Nat.lt_or_ge i listed.size with h' | h'
    ·simp [h'] at h0 h3; rw [h0] at h3; cases h3
    ·simp [Array.getElem?_eq_none h'] at h3
   have h2 := wpOp_putIf hoj (hfree j oj hoj hji hjun hnot) (fun cs b => hsel i oi cs b hi) (fun cs b => hsel j oj cs b hoj) hQ hy h1
   have hfree' : ∀ k ok, ops[k]? = some ok -> k ≠ i -> (listed.setIfInBounds j true).getD k true = false ->
     (∀ e ∈ ok.after, Region.binds md e = true -> e.on ≠ i) -> oi.apart ops ok = true := fun k ok hk hki hun hno => by
    refine hfree k ok hk hki ?_ hno
    by_cases hjk : j = k
    ·subst hjk; exact hjun
    ·rw [getD_set_ne true hjk] at hun; exact hun
   have hl0' : (listed.setIfInBounds j true).getD j0 true = false := by rw [getD_set_ne true hj0]; exact hl0
   have hl0'' : ((listed.setIfInBounds i true).setIfInBounds j true).getD j0 true = false := by rw [getD_set_ne true hj0, getD_set_ne true hi0]; exact hl0
   refine wpOp_mono (fun a' w' h3 => ?_) h2
   have hS' : S w' := by
    rcases h3.2.1 with e | e
    ·rw [hl0''] at e; cases e
    ·exact e
   refine ⟨.inr hS', ih (listed.setIfInBounds j true) a' w' hl0' hi0 (hcl.step hj) hfree' (ready_mono hr (Ne.symm hji)) h3.1 hS' ?_⟩
   rw [Array.setIfInBounds_comm _ _ hji]
   exact h3.2.2
theorem pg {i : Nat} {oi : Oper} {v : Value} {fuel : Nat} {listed : Array Bool} {a : Act} {w : World} (hi : ops[i]? = some oi) (hij : ((i == j0) = false /\ jT md ops 12 j0 i = true) /\ lW md ops listed = true)
  (hs : Region.noSelect ops = true) (hl : listed.getD j0 true = false) (hf : Region.free md ops listed i = true) (hr : (Region.ready md ops listed).contains i = true)
  (hQ : ∀ c a w, Q (.panic c) (a.put oi.dst v) w -> Q (.panic c) a w) (hy : YieldsIf P ops S oi v a) (hS : S w)
  (h : cI P md ops Q S j0 fuel (listed.setIfInBounds i true) (a.put oi.dst v) w) : cI P md ops Q S j0 (fuel + 1) listed a w :=
 oz hi hij.1.2 (Region.noSelect_spec hs) hQ fuel listed a w hl (by simpa using hij.1.1) (oX hij.2) (Region.free_spec hi hf) (by simpa using hr) hy hS h
theorem ph {i : Nat} {oi : Oper} {v : Value} (hi : ops[i]? = some oi) (hi0 : i ≠ j0) (hsel : ∀ (j : Nat) (o : Oper) cs b, ops[j]? = some o -> o.op ≠ .select cs b)
  (hQ : ∀ c a w, Q (.panic c) (a.put oi.dst v) w -> Q (.panic c) a w) :
  ∀ (fuel : Nat) (listed : Array Bool) (a : Act) (w : World),
   (∀ j oj, ops[j]? = some oj -> j ≠ i -> listed.getD j true = false -> (∀ e ∈ oj.after, Region.binds md e = true -> e.on ≠ i) -> oi.apart ops oj = true) ->
   i ∈ Region.ready md ops listed -> YieldsIf P ops (fun _ => True) oi v a -> mV S j0 listed w ->
   cI P md ops Q S j0 fuel (listed.setIfInBounds i true) (a.put oi.dst v) w -> cI P md ops Q S j0 (fuel + 1) listed a w := by
 intro fuel
 induction fuel with
 | zero =>
  intro listed a w _ hr hy hS H
  refine ⟨fun h => (by rw [h] at hr; cases hr), fun j hj => ?_⟩
  by_cases hji : j = i
  ·subst hji; exact hy.wpOp hi trivial ⟨(by unfold mV at hS ⊢; rwa [getD_set_ne true hi0]), H⟩
  ·have := ready_mono hj hji
   rw [H.1] at this
   cases this
 | succ fuel ih =>
  intro listed a w hfree hr hy hS H
  refine ⟨fun h => (by rw [h] at hr; cases hr), fun j hj => ?_⟩
  by_cases hji : j = i
  ·subst hji; exact hy.wpOp hi trivial ⟨(by unfold mV at hS ⊢; rwa [getD_set_ne true hi0]), H⟩
  ·have h1 := H.2 j (ready_mono hj hji)
   obtain ⟨hjun, oj, hoj, hall⟩ := mem_ready.1 hj
   have hnot : ∀ e ∈ oj.after, Region.binds md e = true -> e.on ≠ i := fun e he hb heq => by
    have h1 := hall e he hb
    have h0 := (mem_ready.1 hr).1
    rw [heq] at h1
    rcases Nat.lt_or_ge i listed.size with h' | h'
    ·simp [h'] at h0 h1; rw [h0] at h1; cases h1
    ·simp [Array.getElem?_eq_none h'] at h1
   have h2 := wpOp_putIf hoj (hfree j oj hoj hji hjun hnot) (fun cs b => hsel i oi cs b hi) (fun cs b => hsel j oj cs b hoj) hQ hy h1
   have hfree' : ∀ k ok, ops[k]? = some ok -> k ≠ i -> (listed.setIfInBounds j true).getD k true = false ->
     (∀ e ∈ ok.after, Region.binds md e = true -> e.on ≠ i) -> oi.apart ops ok = true := fun k ok hk hki hun hno => by
    refine hfree k ok hk hki ?_ hno
    by_cases hjk : j = k
    ·subst hjk; exact hjun
    ·rw [getD_set_ne true hjk] at hun; exact hun
   refine wpOp_mono (fun a' w' h3 => ?_) h2
   have hS' : mV S j0 (listed.setIfInBounds j true) w' := by
    have h4 := h3.2.1
    unfold mV at h4 ⊢
    rwa [<- Array.setIfInBounds_comm _ _ hji, getD_set_ne true hi0] at h4
   refine ⟨hS', ih (listed.setIfInBounds j true) a' w' hfree' (ready_mono hr (Ne.symm hji)) h3.1 hS' ?_⟩
   rw [Array.setIfInBounds_comm _ _ hji]
   exact h3.2.2
theorem qR {i : Nat} {oi : Oper} {v : Value} {fuel : Nat} {listed : Array Bool} {a : Act} {w : World} (hi : ops[i]? = some oi) (hij : (i == j0) = false)
  (hs : Region.noSelect ops = true) (hf : Region.free md ops listed i = true) (hr : (Region.ready md ops listed).contains i = true)
  (hQ : ∀ c a w, Q (.panic c) (a.put oi.dst v) w -> Q (.panic c) a w) (hy : YieldsIf P ops (fun _ => True) oi v a) (hS : S w)
  (h : cI P md ops Q S j0 fuel (listed.setIfInBounds i true) (a.put oi.dst v) w) : cI P md ops Q S j0 (fuel + 1) listed a w :=
 ph hi (by simpa using hij) (Region.noSelect_spec hs) hQ fuel listed a w (Region.free_spec hi hf) (by simpa using hr) hy (.inr hS) h
def bH (P : Program) (md : Region.Mode) (ops : Array Oper) (Q : Exit -> Act -> World -> Prop) (S : World -> Prop) (j0 : Nat) (fuel : Nat) (listed : Array Bool) (a : Act) (w : World) (rs : List Nat) : Prop :=
 ∀ i ∈ rs, wpOp P ops Q i (fun a' w' => mV S j0 (listed.setIfInBounds i true) w' /\ cI P md ops Q S j0 fuel (listed.setIfInBounds i true) a' w') a w
theorem bH.nil {fuel : Nat} {listed : Array Bool} {a : Act} {w : World} : bH P md ops Q S j0 fuel listed a w [] := fun _ h => by cases h
theorem bH.cons {fuel : Nat} {listed : Array Bool} {a : Act} {w : World} {i : Nat} {o : Oper} {rs : List Nat} (ho : ops[i]? = some o)
  (h : ∀ K' : Act -> World -> Prop, Shut (∀ a w, S w -> (S w -> cI P md ops Q S j0 fuel (listed.setIfInBounds i true) a w) -> K' a w) -> if Region.wanted o (yielded ops a.tmps) = true then Oper.wp P o a w K' Q else K' (a.put o.dst undef) w)
  (hs : bH P md ops Q S j0 fuel listed a w rs) : bH P md ops Q S j0 fuel listed a w (i :: rs) := fun j hj => by
 rcases List.mem_cons.1 hj with rfl | hj
 ·exact wpOp_step ho (fun K' hK => h K' (fun a w hS hW => hK a w ⟨.inr hS, hW hS⟩))
 ·exact hs j hj
theorem eJ {rs : List Nat} {fuel : Nat} {listed : Array Bool} {a : Act} {w : World} (hr : Region.ready md ops listed = rs) (hne : rs ≠ [])
  (h : bH P md ops Q S j0 fuel listed a w rs) : cI P md ops Q S j0 (fuel + 1) listed a w := ⟨fun h0 => absurd (hr ▸ h0) hne, hr ▸ h⟩
theorem bZ {fuel : Nat} {listed : Array Bool} {a : Act} {w : World} {o : Oper} (hr : Region.ready md ops listed = [j0]) (ho : ops[j0]? = some o)
  (h : ∀ K' : Act -> World -> Prop, Shut (∀ a w, wpAny P md ops Q fuel (listed.setIfInBounds j0 true) a w -> K' a w) -> if Region.wanted o (yielded ops a.tmps) = true then Oper.wp P o a w K' Q else K' (a.put o.dst undef) w) : cI P md ops Q S j0 (fuel + 1) listed a w := by
 refine ⟨fun h0 => (by rw [hr] at h0; cases h0), fun i hi => ?_⟩
 rw [hr] at hi
 obtain rfl := aR.1 hi
 have hl : (listed.setIfInBounds i true).getD i true = true := by
  rcases Nat.lt_or_ge i listed.size with h' | h'
  ·simp [h']
  ·simp
 exact wpOp_step ho (fun K' hK => h K' (fun a w hW => hK a w ⟨.inl hl, jE _ _ _ _ hl hW⟩))
theorem iP {id : Nat} {a : Act} {w : World} (j0 : Nat) (S : World -> Prop) (hm : P.follows .mixedOrders = true) (hS : S w.drew)
  (h : S w.drew -> cI P .any ops Q S j0 ops.size (Array.replicate ops.size false) a w.drew) : (Code.region id ops true).wp P Q a w :=
 wp_region_any hm (jN _ _ _ _ (h hS))
theorem dT {l n id : Nat} {a : Act} {w : World} (j0 : Nat) (S : World -> Prop) (hm : P.follows .mixedOrders = true) (hd : (ops.toList.all fun o => ko o.op) = true) (hq : ¬ LetsOut Q) (hS : S w.drew)
  (h : S w.drew -> cI P .any ops Q S j0 ops.size (Array.replicate ops.size false) a w.drew) : (Code.region id ops true).wpIn (Fence.wide.inRound l) n P Q a w :=
 iH hm (ia (fun i o ho => List.all_eq_true.1 hd o (by rw [<- Array.getElem?_toList] at ho; exact aF ho)) hq _ _ _ _ (jN _ _ _ _ (h hS)))
theorem puL (i : Nat) {oi : Oper} {v : Value} {fuel : Nat} {listed : Array Bool} {a : Act} {w : World}
  (h : cI P md ops Q S j0 fuel (listed.setIfInBounds i true) (a.put oi.dst v) w) (hi : ops[i]? = some oi := by rfl) (hy : ∀ w : World, True -> (execOp a.eval oi).run P w = .ok (.value v) w := by (intro w _; go_simp; (try with_reducible rfl))) (hij : (i == j0) = false := by kernel_rfl)
  (hs : Region.noSelect ops = true := by kernel_rfl) (hf : Region.free md ops listed i = true := by kernel_rfl) (hr : (Region.ready md ops listed).contains i = true := by kernel_rfl)
  (hQ : ∀ c a w, Q (.panic c) (a.put oi.dst v) w -> Q (.panic c) a w := by exact fun _ _ _ h => h) (hw : Region.wanted oi (yielded ops a.tmps) = true := by kernel_rfl) (hS : S w := by assumption) : cI P md ops Q S j0 (fuel + 1) listed a w :=
 qR hi hij hs hf hr hQ (.inl ⟨hw, hy⟩) hS h
theorem taL (i : Nat) {oi : Oper} {v : Value} {fuel : Nat} {listed : Array Bool} {a : Act} {w : World}
  (h : cI P md ops Q S j0 fuel (listed.setIfInBounds i true) (a.put oi.dst v) w) (hi : ops[i]? = some oi := by rfl) (hy : ∀ w : World, S w -> (execOp a.eval oi).run P w = .ok (.value v) w := by (intro w hSw; (try dsimp only at hSw); go_simp; (try with_reducible rfl))) (hij : (i == j0) = false := by kernel_rfl) (hre : jT md ops 12 j0 i = true := by kernel_rfl) (hcl : lW md ops listed = true := by kernel_rfl)
  (hs : Region.noSelect ops = true := by kernel_rfl) (hl : listed.getD j0 true = false := by kernel_rfl) (hf : Region.free md ops listed i = true := by kernel_rfl) (hr : (Region.ready md ops listed).contains i = true := by kernel_rfl)
  (hQ : ∀ c a w, Q (.panic c) (a.put oi.dst v) w -> Q (.panic c) a w := by exact fun _ _ _ h => h) (hw : Region.wanted oi (yielded ops a.tmps) = true := by kernel_rfl) (hS : S w := by assumption) : cI P md ops Q S j0 (fuel + 1) listed a w :=
 pg hi ⟨⟨hij, hre⟩, hcl⟩ hs hl hf hr hQ (.inl ⟨hw, hy⟩) hS h
theorem ta0 (i : Nat) {oi : Oper} {v : Value} {fuel : Nat} {listed : Array Bool} {a : Act} {w : World}
  (h : wpAny P md ops Q fuel (listed.setIfInBounds i true) (a.put oi.dst v) w) (hi : ops[i]? = some oi := by rfl) (hy : ∀ w : World, (execOp a.eval oi).run P w = .ok (.value v) w := by (intro w; go_simp; (try with_reducible rfl)))
  (hs : Region.noSelect ops = true := by kernel_rfl) (hf : Region.free md ops listed i = true := by kernel_rfl) (hr : (Region.ready md ops listed).contains i = true := by kernel_rfl)
  (hQ : ∀ c a w, Q (.panic c) (a.put oi.dst v) w -> Q (.panic c) a w := by exact fun _ _ _ h => h) (hw : Region.wanted oi (yielded ops a.tmps) = true := by kernel_rfl) : wpAny P md ops Q (fuel + 1) listed a w :=
 wpAny_take hi hs hf hr hQ (.inl ⟨hw, hy⟩) h
theorem reL (i : Nat) {o : Oper} {fuel : Nat} {listed : Array Bool} {a : Act} {w : World}
  (h : ∀ K' : Act -> World -> Prop, Shut (∀ a w, S w -> (S w -> cI P md ops Q S j0 fuel (listed.setIfInBounds i true) a w) -> K' a w) -> if Region.wanted o (yielded ops a.tmps) = true then Oper.wp P o a w K' Q else K' (a.put o.dst undef) w)
  (hr : Region.ready md ops listed = [i] := by kernel_rfl) (ho : ops[i]? = some o := by rfl) : cI P md ops Q S j0 (fuel + 1) listed a w :=
 eJ hr (by simp) (bH.cons ho h bH.nil)
end
theorem LY : (∀ (a : Act) (v : Value), a.put none v = a) /\ (∀ (a : Act) (v : Value) (d : Tmp), a.put (some d) v = { tmps := a.tmps.setIfInBounds d v, defers := a.defers }) /\ (∀ (xs : List Value) (i : Nat) (h : i < xs.toArray.size), xs.toArray[i] = xs[i]'(by simpa using h)) /\
  (∀ (x : Value) (l : List Value) (i : Nat) (h : i + 1 < (x :: l).length), (x :: l)[i + 1] = l[i]'(by simpa using h)) /\ (∀ (x : Value) (l : List Value) (h : 0 < (x :: l).length), (x :: l)[0] = x) /\ (∀ (l : List Value) (i : Nat) (v : Value), l.toArray.setIfInBounds i v = (l.set i v).toArray) /\
  (∀ (x y : Value) (l : List Value), (x :: l).set 0 y = y :: l) /\ (∀ (x y : Value) (l : List Value) (i : Nat), (x :: l).set (i + 1) y = x :: l.set i y) :=
 ⟨fun _ _ => rfl, fun _ _ _ => rfl, fun _ _ _ => rfl, fun _ _ _ _ => rfl, fun _ _ _ => rfl, fun l i v => by simp, fun _ _ _ => rfl, fun _ _ _ _ => rfl⟩
section
variable {P : Program} (w : World)
theorem mj (base : Nat) (t ty e : TypeId) (i : TypeInfo) (size : Nat) (ht : P.underlying t = some (.slice e)) (hi : P.info? e = some i)
  (v : Value) (n : Nat) (xs : List Value) (hown : w.ownsRow base e size v n xs) (c : Nat) : (Builtin.append_ #[t, t] ty #[v, .slice none 0 c]).run P w = .ok v w := by
 rcases hown.2 with ⟨rfl, rfl⟩ | ⟨g, cap, cur, rfl, _, _, hnc, _⟩
 ·simp [Builtin.append_, run_underlying ht, sizeOf, typeInfo, hi, Builtin.lenOf, Builtin.firstCells]
 ·simp [Builtin.append_, run_underlying ht, sizeOf, typeInfo, hi, Builtin.lenOf, Builtin.firstCells, hnc, storeCells]
theorem mZ (base : Nat) (t ty e : TypeId) (i : TypeInfo) (z : Value) (bytes : Nat) (ht : P.underlying t = some (.slice e)) (hi : P.info? e = some i) (hz : i.zero = some z)
  (hsize : i.size = 1) (hby : i.bytes = bytes) (hzs : z.cells.size = 1)
  (v : Value) (n : Nat) (xs : List Value) (hown : w.ownsRow base e 1 v n xs)
  (A : Option Addr) (c : Nat) (news : List Value) (hr : Rd w A news) (hA : A = none -> news = []) (h1 : ∀ u ∈ news, u.oneCell' = true)
  (h63 : n + news.length <= maxLen) (hbytes : (n + news.length) * bytes <= 140737488355328) (hbase : base <= w.heap.size) :
  ∃ v' w', (Builtin.append_ #[t, t] ty #[v, .slice A news.length c]).run P w = .ok v' w' /\ w'.ownsRow base e 1 v' (n + news.length) (xs ++ news) /\ w.grownBy w' v.ownBlock /\
   (v'.ownBlock = v.ownBlock ∨ v'.ownBlock = some w.heap.size) := by
 cases A with
 | none =>
  have hn := hA rfl
  subst hn
  exact ⟨v, w, mj w base t ty e i 1 ht hi v n xs hown c, by simpa using hown, World.grownBy.refl w _, .inl rfl⟩
 | some ad =>
  have hcells : ∀ j u, news[j]? = some u -> w.cell? (ad.add j) = some u := by
   intro j u hu
   rcases hr with h0 | ⟨b, off, hA, -, hc⟩
   ·rw [h0] at hu
    simp at hu
   ·cases hA
    exact (congrArg w.cell? (gr b off j)).trans (hc j u hu)
  obtain ⟨v', w', hrun, h2, h3, _, h5⟩ := run_append_own_at (P := P) w base t ty e i z 1 bytes ht hi hz hsize hby hzs (by decide) v n xs hown ad news.length c news (by simp) hcells h1 h63 hbytes hbase
  exact ⟨v', w', hrun, h2, h3, h5⟩
theorem oy {o : Oper} {a : Act} {K : Act -> World -> Prop} {Q : Exit -> Act -> World -> Prop} (s x : Operand) (t : TypeId)
  (ho : o.op = .call { callee := .builtin .append, args := #[s, x], argTypes := #[t, t] })
  (base : Nat) (e : TypeId) (i : TypeInfo) (z : Value) (bytes : Nat) (ht : P.underlying t = some (.slice e)) (hi : P.info? e = some i) (hz : i.zero = some z)
  (hsize : i.size = 1) (hby : i.bytes = bytes) (hzs : z.cells.size = 1)
  (v : Value) (n : Nat) (xs : List Value) (hs : a.eval s = v) (hown : w.ownsRow base e 1 v n xs)
  (A : Option Addr) (c m : Nat) (news : List Value) (hx : a.eval x = .slice A m c) (hm : news.length = m) (hr : Rd w A news) (hA : A = none -> news = []) (h1 : ∀ u ∈ news, u.oneCell' = true)
  (h63 : n + m <= maxLen) (hbytes : (n + m) * bytes <= 140737488355328) (hbase : base <= w.heap.size)
  (h : ∀ v' w', w'.ownsRow base e 1 v' (n + m) (xs ++ news) -> w.grownBy w' v.ownBlock -> (v'.ownBlock = v.ownBlock ∨ v'.ownBlock = some w.heap.size) -> K (a.put o.dst v') w') : o.wp P a w K Q := by
 subst hm
 obtain ⟨v', w', hrun, h2, h3, h4⟩ := mZ (P := P) w base t o.type e i z bytes ht hi hz hsize hby hzs v n xs hown A c news hr hA h1 h63 hbytes hbase
 unfold Oper.wp execOp
 simp only [ho, resolve, invoke, builtin, Sem.run_bind, Sem.run_pure, Result.andThen_ok, List.map_toArray, List.map_cons, List.map_nil, hs, hx, hrun]
 exact h v' w' h2 h3 h4
theorem gL {ops : Array Oper} {rest : List Oper} {o : Oper} {a : Act} {Q : Exit -> Act -> World -> Prop} (hgd : o.guard = none) (s x : Operand) (t : TypeId)
  (ho : o.op = .call { callee := .builtin .append, args := #[s, x], argTypes := #[t, t] })
  (base : Nat) (e : TypeId) (i : TypeInfo) (z : Value) (bytes : Nat) (ht : P.underlying t = some (.slice e)) (hi : P.info? e = some i) (hz : i.zero = some z)
  (hsize : i.size = 1) (hby : i.bytes = bytes) (hzs : z.cells.size = 1)
  (v : Value) (n : Nat) (xs : List Value) (hs : a.eval s = v) (hown : w.ownsRow base e 1 v n xs)
  (A : Option Addr) (c m : Nat) (news : List Value) (hx : a.eval x = .slice A m c) (hm : news.length = m) (hr : Rd w A news) (hA : A = none -> news = []) (h1 : ∀ u ∈ news, u.oneCell' = true)
  (h63 : n + m <= maxLen) (hbytes : (n + m) * bytes <= 140737488355328) (hbase : base <= w.heap.size)
  (h : ∀ v' w', w'.ownsRow base e 1 v' (n + m) (xs ++ news) -> w.grownBy w' v.ownBlock -> (v'.ownBlock = v.ownBlock ∨ v'.ownBlock = some w.heap.size) -> wpList P ops Q rest (a.put o.dst v') w') : wpList P ops Q (o :: rest) a w :=
 wpList_plain hgd fun _ hK => oy w s x t ho base e i z bytes ht hi hz hsize hby hzs v n xs hs hown A c m news hx hm hr hA h1 h63 hbytes hbase fun v' w' h2 h3 h4 => hK _ _ (h v' w' h2 h3 h4)
end
theorem ss {w : World} {xs : List Value} (h : Rd w none xs) : xs = [] := by
 rcases h with h | ⟨_, _, h, _⟩
 ·exact h
 ·cases h
theorem iF {w w' : World} (h : w.grownBy w' none) : Below w.heap.size w w' := ⟨h.os, h.tape, h.output, h.size, fun i hi => h.block i hi (by simp)⟩
theorem qf : (Tryz.prog.info? 3).map (fun i => (i.zero, i.size, i.bytes)) = some (some (iV 0), 1, 8) := by kernel_rfl
theorem nG : (Tryz.prog.info? 46).map (fun i => (i.zero, i.size, i.bytes)) = some (some (.slice none 0 0), 1, 24) := by kernel_rfl
end Go.Proofs.YtpeaiphdkgifaaaGreatDoor
