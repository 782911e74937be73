/-
  The walk over journal.Decode: a deferred closure that recovers.
-/
import Derived.Test.YtoaembpakmpolaaJouLog
import Derived.Defers
import Derived.Recover
namespace Go.Proofs.Ytoaembpakmpolaa
open Go.RowKit Jou
attribute [local go_sem] ba_get ba_extract ba_append

/-- The empty entry. -/
def zeroLog : Log := ⟨0, 0, [], ⟨[], 0, 0, 0, 0⟩, ⟨0, 0, 0, 0, [], []⟩, ⟨[], 0, 0, 0, 0, 0, 0, 0, [], 0, []⟩, ⟨[], 0, 0, 0, 0⟩, 0, 0⟩
/-- What Decode answers: the entry and the error. -/
def decodeR (b : List UInt8) : Log × Int :=
  match Jou.decode b with
  | none => (zeroLog, 400)
  | some x => (x, 0)
def zeroCells : Array Value := logCells zeroLog none 0 none 0
theorem zero_size : zeroCells.size = 32 := rfl
theorem zero_one : zeroCells.all (·.oneCell') = true := by simp [zeroCells, logCells, Value.oneCell', zeroLog]

set_option maxHeartbeats 1000000 in
set_option maxRecDepth 100000 in
theorem catch_pan (q r : Nat) (old : Array Value) (x : Value) (u : TypeId) (pv : Value) (older : List PanicEntry) (w : World) (hq : w.heap[q]? = some (.cells old 37 (0, 0))) (hold : old.size = 32)
    (hr : w.heap[r]? = some (.cells #[x] 41 (0, 0))) (hqr : r ≠ q) :
    CallsD Try.prog 27 #[.pointer (some ⟨q, 0, none⟩), .pointer (some ⟨r, 0, none⟩)] (.panicking ({ v := .iface u pv, recovered := false } :: older)) w fun e u' w' =>
      e = .returned (.tuple #[]) ∧ u' = .panicking ({ v := .iface u pv, recovered := true } :: older) ∧ w' = (w.setRow q zeroCells).setCell ⟨r, 0, none⟩ (iV 400) := by
  have hr' : (w.setRow q zeroCells).heap[r]? = some (.cells #[x] 41 (0, 0)) := (setRow_other _ _ _ _ hqr).trans hr
  have hc : (w.setRow q zeroCells).cell? ⟨r, 0, none⟩ = some x := cell_of_row _ _ 0 _ _ _ hr'
  have hf : (w.setRow q zeroCells).frozen? ⟨r, 0, none⟩ = false := frozen_row hr' 0
  have HQ := Lib.hid hq; clear hq
  have HO := Lib.hid hold; clear hold
  clear hr' hr
  refine callsD_of_wpS Try.func27 rfl fun c₀ cs hu => ?_
  apply wpS_seq
  apply wpS_region
  simp [wpOpsS, go_sem, recoverD, hu, Try.ntmps27, Exit.thenS]
  refine wpS_cond (t := true) (by simp [Act.eval, Array.replicate]) ?_
  simp only [if_true]
  refine wpS_of_wp ?_
  go_wp2_with (first | (refine wpList_build (by rfl) 37 #[] (by rfl) (by kernel_rfl) ?_) | (refine wpList_store_row (by rfl) 37 (.tmp 0) (.tmp 4) (by rfl) q zeroCells (by rfl) (by kernel_rfl) 37 old HQ.out lgInf (HO.out.trans rfl) zero_one ?_))
  simp [bodyPostS, results, Try.results27]
theorem catch_idle (q r : Nat) (w : World) :
    CallsD Try.prog 27 #[.pointer (some ⟨q, 0, none⟩), .pointer (some ⟨r, 0, none⟩)] .returning w fun e u' w' => e = .returned (.tuple #[]) ∧ u' = .returning ∧ w' = w := by
  refine callsD_of_wpS Try.func27 rfl fun c₀ cs hu => ?_
  apply wpS_seq
  apply wpS_region
  simp [wpOpsS, go_sem, recoverD, hu, Try.ntmps27, Exit.thenS]
  refine wpS_cond (t := false) (by simp [Act.eval, Array.replicate]) ?_
  simp only [Bool.false_eq_true, if_false]
  refine wpS_of_wp (wp_skip ?_)
  cases c₀
  simp_all [bodyPostS, results, Try.results27]

/-- What Decode leaves. -/
def DecRes (w : World) (b : List UInt8) (e : Ending) (w' : World) : Prop :=
  Below w.heap.size w w' ∧ ∃ AC cc AP cp, e = .returned (.tuple #[.agg (logCells (decodeR b).1 AC cc AP cp), iV (decodeR b).2]) ∧
    Rd w' AC ((decodeR b).1.rcd.contents.map sV) ∧ Rd w' AP ((decodeR b).1.paper.path.map iV) ∧ Low w'.heap.size AC ∧ Low w'.heap.size AP
theorem below_of_g {w w' : World} {p : Nat} (h : w.grownBy w' (some p)) {n : Nat} (hn : n ≤ w.heap.size) (hp : n ≤ p) : Below n w w' :=
  ⟨h.os, h.tape, h.output, h.size, fun i hi => h.block i (by omega) (by simp; omega)⟩
theorem DecRes.bad {w w' : World} {b : List UInt8} (h : Jou.decode b = none) (hb : Below w.heap.size w w') : DecRes w b (.returned (.tuple #[.agg zeroCells, iV 400])) w' := by
  have h1 : decodeR b = (zeroLog, 400) := by unfold decodeR; rw [h]
  refine ⟨hb, none, 0, none, 0, by rw [h1]; rfl, ?_, ?_, fun a ha => (by cases ha), fun a ha => (by cases ha)⟩
  · rw [h1]; exact Rd.nil _ _
  · rw [h1]; exact Rd.nil _ _
/-- The world behind the two results, the door's world. -/
def Dw (w W : World) (cs : Array Value) (x : Value) : Prop :=
  Below w.heap.size w W ∧ W.heap[w.heap.size]? = some (.cells cs 37 (0, 0)) ∧ W.heap[w.heap.size + 1]? = some (.cells #[x] 41 (0, 0))
theorem Dw.new (w : World) : Dw w ((w.alloc (.cells zeroCells 37)).alloc (.cells #[iV 0] 41)) zeroCells (iV 0) :=
  ⟨((Below.refl _ w).alloc (Nat.le_refl _) _).alloc (by simp) _, (Below.heap_alloc _ _ _ (by simp)).trans (heap_alloc_new _ _), by
    have := heap_alloc_new (w.alloc (.cells zeroCells 37)) (.cells #[iV 0] 41)
    rwa [World.size_alloc] at this⟩
theorem Dw.alloc {w W : World} {cs : Array Value} {x : Value} (h : Dw w W cs x) (o : Obj) : Dw w (W.alloc o) cs x :=
  ⟨h.1.alloc h.1.size _, (Below.heap_alloc _ _ _ (block_lt h.2.1)).trans h.2.1, (Below.heap_alloc _ _ _ (block_lt h.2.2)).trans h.2.2⟩
theorem Dw.grown {w W W' : World} {cs : Array Value} {x : Value} (h : Dw w W cs x) {p : Nat} (hp : w.heap.size + 2 ≤ p) (hg : W.grownBy W' (some p)) : Dw w W' cs x :=
  ⟨h.1.trans (below_of_g hg h.1.size (by omega)), (hg.block _ (block_lt h.2.1) (by simp; omega)).trans h.2.1, (hg.block _ (block_lt h.2.2) (by simp; omega)).trans h.2.2⟩
theorem Dw.row {w W : World} {cs : Array Value} {x : Value} (h : Dw w W cs x) (cs' : Array Value) : Dw w (W.setRow w.heap.size cs') cs' x :=
  ⟨⟨h.1.os, h.1.tape, h.1.output, by simp; exact h.1.size, fun i hi => (setRow_other _ _ _ _ (by omega)).trans (h.1.block i hi)⟩, setRow_heap _ _ _ _ _ _ h.2.1, (setRow_other _ _ _ _ (by omega)).trans h.2.2⟩
theorem Dw.set {w W : World} {cs : Array Value} {x : Value} (h : Dw w W cs x) (y : Value) : Dw w (W.setCell ⟨w.heap.size + 1, 0, none⟩ y) cs y :=
  ⟨h.1.setCell (by simp) _, row_other h.2.1 (by omega) _ _, row_set h.2.2 0 y⟩
theorem Dw.res {w W : World} {cs : Array Value} {x : Value} (h : Dw w W cs x) (hs : cs.size = 32) (tmps : Array Value) (h2 : tmps.getD 2 undef = .pointer (some ⟨w.heap.size, 0, none⟩)) (h3 : tmps.getD 3 undef = .pointer (some ⟨w.heap.size + 1, 0, none⟩)) (_hx : x.oneCell' = true) :
    (results Try.f12 tmps).run Try.prog W = .ok (.tuple #[.agg cs, x]) W := by
  have e1 := run_loadVar_row (P := Try.prog) W w.heap.size 37 37 cs (0, 0) _ h.2.1 Try.underlying37 rfl (by rw [hs]; exact lgInf)
  have e2 : (loadVar 41 ⟨w.heap.size + 1, 0, none⟩).run Try.prog W = .ok x W := by
    have := cell_of_row W _ 0 _ _ _ h.2.2
    simp [loadVar, go_sem, this]
  have h2' : tmps[2]?.getD undef = .pointer (some ⟨w.heap.size, 0, none⟩) := by simpa using h2
  have h3' : tmps[3]?.getD undef = .pointer (some ⟨w.heap.size + 1, 0, none⟩) := by simpa using h3
  simp [results, Try.results12, asAddr, h2', h3', e1, e2]
set_option maxHeartbeats 4000000 in
set_option maxRecDepth 100000 in
theorem decode_any (b : List UInt8) (A : Option Addr) (c : Nat) (w : World) (hA : Rd w A (b.map bV)) (hl : Low w.heap.size A) (hc : b.length ≤ c) (hm : c ≤ maxLen) :
    Calls Try.prog 12 #[.slice A b.length c] w (DecRes w b) := by
  have hmf : ∀ (fn : Fn) (first cap : Array Value) (w : World), (Instr.makeFunc fn first cap).run Try.prog w = .ok (.func fn first cap) w := fun _ _ _ _ => rfl
  have HD := Lib.hid (Dw.new w)
  have HA := Lib.hid hA; clear hA
  have HL := Lib.hid hl; clear hl
  have HC := Lib.hid hc; clear hc
  have HM := Lib.hid hm
  unfold maxLen at hm
  have hb63 : (b.length : Int) ≤ 9223372036854775807 := by have := HC.out; omega
  by_cases h3 : b.length > 3000
  · have hN : Hid (Jou.decode b = none) := by show _ = _; unfold Jou.decode; rw [if_pos h3]
    have h3' : (3000 : Int) < (b.length : Int) := by omega
    go_enter_defers Try.func12, Try.ntmps12
    go_wp2
    refine leaves_cons (f := 27) (args := #[.pointer (some ⟨w.heap.size, 0, none⟩), .pointer (some ⟨w.heap.size + 1, 0, none⟩)]) (by simp) (by simp [go_sem]) ?_
    refine (catch_pan w.heap.size (w.heap.size + 1) _ _ _ _ _ _ HD.out.2.1 rfl HD.out.2.2 (by omega)).mono ?_
    rintro e u' w'' ⟨rfl, rfl, rfl⟩
    have hD := (HD.out.row zeroCells).set (iV 400)
    exact ⟨_, hD.res rfl _ rfl rfl rfl, DecRes.bad hN.out hD.1⟩
  · have h3' : ¬ (3000 : Int) < (b.length : Int) := by omega
    have hdec : Hid (Jou.decode b = logP b) := by show _ = _; unfold Jou.decode; rw [if_neg h3]
    have HD2 : Hid (Dw w (((w.alloc (.cells zeroCells 37)).alloc (.cells #[iV 0] 41)).alloc (.cells #[.slice A b.length c] 67)) zeroCells (iV 0)) := HD.out.alloc _
    have HR : Hid (Rr (((w.alloc (.cells zeroCells 37)).alloc (.cells #[iV 0] 41)).alloc (.cells #[.slice A b.length c] 67)) (w.heap.size + 2) b) := by
      have hh := heap_alloc_new ((w.alloc (.cells zeroCells 37)).alloc (.cells #[iV 0] 41)) (.cells #[.slice A b.length c] 67)
      simp only [World.size_alloc] at hh
      exact ⟨A, c, cell_of_row _ _ 0 _ _ _ hh, frozen_row hh 0, HC.out, HM.out, HA.out.below HD2.out.1, fun a ha => by have := HL.out a ha; omega⟩
    clear HA HL HC HM HD
    go_enter_defers Try.func12, Try.ntmps12
    go_wp2_with fail
    refine (rlog_any (w.heap.size + 2) b _ HR.out).mono ?_
    rintro e w1 ⟨hg, hh⟩
    cases hl : logP b with
    | none =>
      rw [hl] at hh
      subst hh
      have hN : Hid (Jou.decode b = none) := hdec.out.trans hl
      have hD := HD2.out.grown (Nat.le_refl _) hg
      refine leaves_cons (f := 27) (args := #[.pointer (some ⟨w.heap.size, 0, none⟩), .pointer (some ⟨w.heap.size + 1, 0, none⟩)]) (by simp) (by simp [go_sem]) ?_
      refine (catch_pan w.heap.size (w.heap.size + 1) _ _ _ _ _ _ hD.2.1 rfl hD.2.2 (by omega)).mono ?_
      rintro e u' w'' ⟨rfl, rfl, rfl⟩
      have hD := (hD.row zeroCells).set (iV 400)
      exact ⟨_, hD.res rfl _ rfl rfl rfl, DecRes.bad hN.out hD.1⟩
    | some x =>
      rw [hl] at hh
      obtain ⟨AC, cc, AP, cp, rfl, hC, hP, hCl, hPl⟩ := hh
      have hN : Hid (decodeR b = (x, 0)) := by show _ = _; unfold decodeR; rw [hdec.out.trans hl]
      have hD : Hid (Dw w w1 zeroCells (iV 0)) := HD2.out.grown (Nat.le_refl _) hg
      have HCC := Lib.hid hC; clear hC
      have HPP := Lib.hid hP; clear hP
      have HCL := Lib.hid hCl; clear hCl
      have HPL := Lib.hid hPl; clear hPl
      clear hl hg HD2 HR
      have hD3 : Hid (Dw w (w1.setRow w.heap.size (logCells x AC cc AP cp)) (logCells x AC cc AP cp) (iV 0)) := hD.out.row _
      have c3 : (w1.setRow w.heap.size (logCells x AC cc AP cp)).cell? ⟨w.heap.size + 1, 0, none⟩ = some (iV 0) := cell_of_row _ _ 0 _ _ _ hD3.out.2.2
      have f3 : (w1.setRow w.heap.size (logCells x AC cc AP cp)).frozen? ⟨w.heap.size + 1, 0, none⟩ = false := frozen_row hD3.out.2.2 0
      have h1c : Hid ((logCells x AC cc AP cp).all (·.oneCell') = true) := by show _ = _; simp [logCells, Value.oneCell']
      go_wp2_with (refine wpList_store_row (by rfl) 37 (.tmp 2) (.tmp 15) (by rfl) w.heap.size (logCells x AC cc AP cp) (by rfl) (by rfl) 37 zeroCells hD.out.2.1 lgInf rfl h1c.out ?_)
      refine leaves_cons (f := 27) (args := #[.pointer (some ⟨w.heap.size, 0, none⟩), .pointer (some ⟨w.heap.size + 1, 0, none⟩)]) (by simp) (by simp [go_sem]) ?_
      refine (catch_idle w.heap.size (w.heap.size + 1) _).mono ?_
      rintro e u' w'' ⟨rfl, rfl, rfl⟩
      have hD4 := hD3.out.set (iV 0)
      refine ⟨_, hD4.res rfl _ rfl rfl rfl, hD4.1, AC, cc, AP, cp, ?_⟩
      rw [hN.out]
      refine ⟨rfl, rd_set (rd_row HCC.out (fun a ha => by have := HCL.out a ha; simp at this; omega) _) (fun a ha => by have := HCL.out a ha; simp at this; omega) _ _, rd_set (rd_row HPP.out (fun a ha => by have := HPL.out a ha; simp at this; omega) _) (fun a ha => by have := HPL.out a ha; simp at this; omega) _ _, fun a ha => ?_, fun a ha => ?_⟩
      · have := (HCL.out a ha).2
        simpa [World.setCell] using this
      · have := (HPL.out a ha).2
        simpa [World.setCell] using this
end Go.Proofs.Ytoaembpakmpolaa
