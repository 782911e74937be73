/-
  The walks over the reference's reader: posts; steps of reading, without the program.
-/
import Derived.Test.YtoaembpakmpolaaJouRef2
import Derived.BigRegion
namespace Go.Proofs.Ytoaembpakmpolaa
open Go.RowKit Jou
attribute [local go_sem] ba_get ba_extract ba_append

abbrev postV (x : Post) : Value := .agg #[sV x.label, iV x.frm, iV x.to, iV x.cls, iV x.acc]
/-- A post that was read: its parts. -/
def PostIn (x : Post) : Prop := x.label.length ≤ 65535 ∧ I64 x.frm ∧ I64 x.to ∧ I64 x.cls ∧ I64 x.acc
def PostR (p : Nat) (b : List UInt8) (st : Option (List UInt8)) (w : World) (e : Ending) (w' : World) : Prop :=
  ∃ x : Post, e = .returned (postV x) ∧ PostIn x ∧ w.grownBy w' (some p) ∧ Rst w' p b ((st.bind postP).map (·.2)) ∧ ∀ y, st.bind postP = some y → x = y.1
theorem postP_nums (l : List UInt8) : postP l = (txtP l).bind fun t => (numsP 4 t.2).bind fun a => some (⟨t.1, a.1.getD 0 0, a.1.getD 1 0, a.1.getD 2 0, a.1.getD 3 0⟩, a.2) := by
  simp only [postP, numsP, Option.bind_eq_bind]
  cases txtP l with
  | none => rfl
  | some x1 =>
    obtain ⟨x1, l1⟩ := x1
    simp only [Option.bind_some]
    cases numP l1 with
    | none => rfl
    | some x2 =>
      obtain ⟨x2, l2⟩ := x2
      simp only [Option.bind_some]
      cases numP l2 with
      | none => rfl
      | some x3 =>
        obtain ⟨x3, l3⟩ := x3
        simp only [Option.bind_some]
        cases numP l3 with
        | none => rfl
        | some x4 =>
          obtain ⟨x4, l4⟩ := x4
          simp only [Option.bind_some]
          cases numP l4 with
          | none => rfl
          | some x5 => rfl
theorem post_st (st : Option (List UInt8)) : (((st.bind txtP).map (·.2)).bind (numsP 4)).map (·.2) = (st.bind postP).map (·.2) := by
  cases st with
  | none => rfl
  | some l =>
    simp only [Option.bind_some]
    rw [postP_nums]
    cases txtP l with
    | none => rfl
    | some t =>
      simp only [Option.map_some, Option.bind_some]
      cases numsP 4 t.2 <;> rfl
theorem post_val {st : Option (List UInt8)} {s : List UInt8} {n1 n2 n3 n4 : Int} (h : ∀ x, st.bind txtP = some x → s = x.1) (k : ∀ x, ((st.bind txtP).map (·.2)).bind (numsP 4) = some x → [n1, n2, n3, n4] = x.1) : ∀ y, st.bind postP = some y → (⟨s, n1, n2, n3, n4⟩ : Post) = y.1 := by
  intro y hy
  cases st with
  | none => cases hy
  | some l =>
    simp only [Option.bind_some] at h k hy
    rw [postP_nums] at hy
    cases ht : txtP l with
    | none => rw [ht] at hy; cases hy
    | some t =>
      rw [ht] at h k hy
      simp only [Option.map_some, Option.bind_some] at k hy
      cases hn : numsP 4 t.2 with
      | none => rw [hn] at hy; cases hy
      | some a =>
        rw [hn] at k hy
        cases hy
        have e := k a rfl
        rw [h t rfl, ← e]
        rfl
theorem four {ns : List Int} (h : ns.length = 4) : ∃ a b c d, ns = [a, b, c, d] := by
  match ns, h with
  | [a, b, c, d], _ => exact ⟨a, b, c, d, rfl⟩
theorem g_drew {a b : World} {r : Option Nat} (h : a.grownBy b r) : a.grownBy b.drew r := ⟨h.os, h.tape, h.output, h.size, h.block⟩
theorem Rst.drew {w : World} {p : Nat} {b : List UInt8} {st : Option (List UInt8)} (h : Rst w p b st) : Rst w.drew p b st := h
theorem Rst.set {w : World} {p : Nat} {b : List UInt8} {st : Option (List UInt8)} (h : Rst w p b st) {B : Nat} (hB : p < B) (j : Nat) (v : Value) : Rst (w.setCell ⟨B, j, none⟩ v) p b st := h.grown (g_set w B j v) hB
set_option maxHeartbeats 4000000 in
set_option maxRecDepth 100000 in
theorem fpost_any (p : Nat) (b : List UInt8) (st : Option (List UInt8)) (w : World) (hR : Rst w p b st) :
    Calls Try.prog 32 #[.pointer (some ⟨p, 0, none⟩)] w (PostR p b st w) := by
  have hpl := hR.lt
  have HR := Lib.hid hR; clear hR
  have HZ : Hid ((w.alloc (.cells #[.string ⟨#[]⟩, iV 0, iV 0, iV 0, iV 0] 23)).heap[w.heap.size]? = some (.cells #[.string ⟨#[]⟩, iV 0, iV 0, iV 0, iV 0] 23 (0, 0))) := heap_alloc_new _ _
  go_enter Try.func32, Try.ntmps32
  go_wp2_with fail
  refine (ftxt_any p b st _ (HR.out.alloc _)).mono ?_
  rintro e w1 ⟨s, rfl, hsl, hg, hs, hv⟩
  have HG1 := Lib.hid (gt (g_alloc (gr w _) _) hg)
  have HZ1 := Lib.hid ((hg.block _ (block_lt HZ.out) (by simp; omega)).trans HZ.out)
  have HS1 := Lib.hid hs
  have HV1 := Lib.hid hv
  clear hg hs hv HZ
  go_wp2_with fail
  refine (fnums_any p b _ 4 _ HS1.out (by omega)).mono ?_
  rintro e w2 ⟨ns, A, c, rfl, hnl, hni, ho, hg, hs, hv⟩
  obtain ⟨n1, n2, n3, n4, rfl⟩ := four hnl
  rw [post_st] at hs
  have HG2 := Lib.hid (gt HG1.out hg)
  have HZ2 := Lib.hid ((hg.block _ (block_lt HZ1.out) (by simp; omega)).trans HZ1.out)
  have HS2 := Lib.hid hs
  have HV2 := Lib.hid (post_val HV1.out hv)
  have hz1 := block_lt HZ1.out
  have HNI := Lib.hid hni
  obtain ⟨bn, on, hA, hbn, hcn⟩ := (own_rd ho).get (i := 0) (by simp)
  have hfar := own_at ho _ hA
  simp only at hfar
  subst hA
  have k0 : w2.cell? ⟨bn, on, none⟩ = some (iV n1) := by simpa using hcn 0 _ rfl
  have k1 : w2.cell? ⟨bn, on + 1, none⟩ = some (iV n2) := hcn 1 _ rfl
  have k2 : w2.cell? ⟨bn, on + 2, none⟩ = some (iV n3) := hcn 2 _ rfl
  have k3 : w2.cell? ⟨bn, on + 3, none⟩ = some (iV n4) := hcn 3 _ rfl
  have HFAR : Hid (bn ≠ w.heap.size) := by show _ ≠ _; omega
  clear hg hs hv hnl hni ho hcn HG1 HZ1 HS1 HV1
  have z0 : w2.cell? ⟨w.heap.size, 0, none⟩ = some (.string ⟨#[]⟩) := cell_of_row w2 _ 0 _ _ _ HZ2.out
  have y0 : w2.frozen? ⟨w.heap.size, 0, none⟩ = false := frozen_row HZ2.out 0
  have z1 : w2.cell? ⟨w.heap.size, 1, none⟩ = some (iV 0) := cell_of_row w2 _ 1 _ _ _ HZ2.out
  have y1 : w2.frozen? ⟨w.heap.size, 1, none⟩ = false := frozen_row HZ2.out 1
  have z2 : w2.cell? ⟨w.heap.size, 2, none⟩ = some (iV 0) := cell_of_row w2 _ 2 _ _ _ HZ2.out
  have y2 : w2.frozen? ⟨w.heap.size, 2, none⟩ = false := frozen_row HZ2.out 2
  have z3 : w2.cell? ⟨w.heap.size, 3, none⟩ = some (iV 0) := cell_of_row w2 _ 3 _ _ _ HZ2.out
  have y3 : w2.frozen? ⟨w.heap.size, 3, none⟩ = false := frozen_row HZ2.out 3
  have z4 : w2.cell? ⟨w.heap.size, 4, none⟩ = some (iV 0) := cell_of_row w2 _ 4 _ _ _ HZ2.out
  have y4 : w2.frozen? ⟨w.heap.size, 4, none⟩ = false := frozen_row HZ2.out 4
  go_wp2
  go_still_tail 14, (by kernel_rfl)
  go_wp2
  refine bodyPost_ret (v := postV ⟨s, n1, n2, n3, n4⟩) (by simp [results, Try.results32, go_sem, z0, z1, z2, z3, z4]) rfl ?_
  have HN := HNI.out
  simp only [List.mem_cons, List.not_mem_nil, or_false, forall_eq_or_imp, forall_eq] at HN
  obtain ⟨g1, g2, g3, g4⟩ := HN
  refine ⟨⟨s, n1, n2, n3, n4⟩, rfl, ⟨hsl, g1, g2, g3, g4⟩, ?_, ?_, HV2.out⟩
  · refine g_drew ?_
    exact (g_new (g_new (g_new (g_new (g_new HG2.out (B := w.heap.size) (Nat.le_refl _) 0 (sV s)) (B := w.heap.size) (Nat.le_refl _) 1 (iV n1)) (B := w.heap.size) (Nat.le_refl _) 2 (iV n2)) (B := w.heap.size) (Nat.le_refl _) 3 (iV n3)) (B := w.heap.size) (Nat.le_refl _) 4 (iV n4))
  · refine Rst.drew ?_
    exact (Rst.set (Rst.set (Rst.set (Rst.set (Rst.set HS2.out (B := w.heap.size) hpl 0 (sV s)) (B := w.heap.size) hpl 1 (iV n1)) (B := w.heap.size) hpl 2 (iV n2)) (B := w.heap.size) hpl 3 (iV n3)) (B := w.heap.size) hpl 4 (iV n4))
/-- A step of reading, without the program: the state behind it, and the value where nothing is missing. -/
def Step {α : Type} (st : Option (List UInt8)) (P : List UInt8 → Option (α × List UInt8)) (v : α) (s1 : Option (List UInt8)) : Prop := s1 = (st.bind P).map (·.2) ∧ ∀ x, st.bind P = some x → v = x.1
def andP {α β : Type} (P : List UInt8 → Option (α × List UInt8)) (Q : α → List UInt8 → Option (β × List UInt8)) (l : List UInt8) : Option (β × List UInt8) := (P l).bind fun a => Q a.1 a.2
def retP {α : Type} (v : α) (l : List UInt8) : Option (α × List UInt8) := some (v, l)
theorem Step.and {α β : Type} {st s1 s2 : Option (List UInt8)} {P : List UInt8 → Option (α × List UInt8)} {Q : α → List UInt8 → Option (β × List UInt8)} {v : α} {u : β} (h : Step st P v s1) (k : Step s1 (Q v) u s2) : Step st (andP P Q) u s2 := by
  obtain ⟨rfl, hv⟩ := h
  obtain ⟨rfl, ku⟩ := k
  cases st with
  | none => exact ⟨rfl, fun x hx => by cases hx⟩
  | some l =>
    simp only [Option.bind_some] at hv ku ⊢
    unfold Step andP
    simp only [Option.bind_some]
    cases hp : P l with
    | none => exact ⟨rfl, fun x hx => by cases hx⟩
    | some a =>
      rw [hp] at hv ku
      have e := hv a rfl
      subst e
      exact ⟨rfl, fun x hx => ku x hx⟩
theorem Step.ret {α : Type} (st : Option (List UInt8)) (v : α) : Step st (retP v) v st := ⟨by cases st <;> rfl, fun x hx => by
  cases st with
  | none => cases hx
  | some l => cases hx; rfl⟩
theorem Step.mk' {α : Type} {st : Option (List UInt8)} {P : List UInt8 → Option (α × List UInt8)} {v : α} (h : ∀ x, st.bind P = some x → v = x.1) : Step st P v ((st.bind P).map (·.2)) := ⟨rfl, h⟩
theorem Step.none {α : Type} {st : Option (List UInt8)} {P : List UInt8 → Option (α × List UInt8)} (h : st.bind P = .none) (v : α) : Step st P v .none := ⟨by rw [h]; rfl, fun x hx => by rw [h] at hx; cases hx⟩
theorem txtsP_snoc : ∀ (k : Nat) (l : List UInt8), txtsP (k + 1) l = andP (txtsP k) (fun a => andP txtP fun x => retP (a ++ [x])) l
  | 0, l => by
    simp only [txtsP, andP, retP, Option.bind_some, List.nil_append]
    cases txtP l <;> rfl
  | k + 1, l => by
    have e : ∀ (m : Nat) (l : List UInt8), txtsP (m + 1) l = (txtP l).bind fun x => (txtsP m x.2).bind fun a => some (x.1 :: a.1, a.2) := fun m l => by
      simp only [txtsP]
      cases txtP l with
      | none => rfl
      | some x => simp only [Option.bind_some]; cases txtsP m x.2 <;> rfl
    simp only [andP]
    rw [e (k + 1) l, e k l]
    cases txtP l with
    | none => rfl
    | some x =>
      simp only [Option.bind_some]
      rw [txtsP_snoc k x.2]
      simp only [andP]
      cases txtsP k x.2 with
      | none => rfl
      | some a =>
        simp only [Option.bind_some, retP]
        cases txtP a.2 <;> rfl
theorem txts_step {k : Nat} {st s1 s2 : Option (List UInt8)} {ss : List (List UInt8)} {s : List UInt8} (h : Step st (txtsP k) ss s1) (g : Step s1 txtP s s2) : Step st (txtsP (k + 1)) (ss ++ [s]) s2 := by
  have e : txtsP (k + 1) = andP (txtsP k) (fun a => andP txtP fun x => retP (a ++ [x])) := funext fun l => txtsP_snoc k l
  rw [e]
  exact h.and (g.and (Step.ret _ _))
theorem txtsP_more {k n : Nat} {st : Option (List UInt8)} {ss : List (List UInt8)} (h : Step st (txtsP k) ss none) (hkn : k ≤ n) (us : List (List UInt8)) : Step st (txtsP n) us none := by
  obtain ⟨d, rfl⟩ : ∃ d, n = k + d := ⟨n - k, by omega⟩
  clear hkn
  have key : st.bind (txtsP (k + d)) = none := by
    induction d with
    | zero =>
      have := h.1.symm
      simpa using this
    | succ d ih =>
      cases st with
      | none => rfl
      | some l =>
        simp only [Option.bind_some] at ih ⊢
        rw [show k + (d + 1) = k + d + 1 from rfl, txtsP_snoc]
        simp only [andP, ih]; rfl
  exact Step.none key us
theorem nums_more' {k n : Nat} {st : Option (List UInt8)} {ss : List Int} (h : Step st (numsP k) ss none) (hkn : k ≤ n) (us : List Int) : Step st (numsP n) us none :=
  Step.none (nums_more (k := k) (by have := h.1.symm; simpa using this) hkn) us
theorem nums_step' {k : Nat} {st s1 s2 : Option (List UInt8)} {ss : List Int} {s : Int} (h : Step st (numsP k) ss s1) (g : Step s1 numP s s2) : Step st (numsP (k + 1)) (ss ++ [s]) s2 := by
  have e : numsP (k + 1) = andP (numsP k) (fun a => andP numP fun x => retP (a ++ [x])) := funext fun l => numsP_snoc k l
  rw [e]
  exact h.and (g.and (Step.ret _ _))
theorem recP_and : recP = andP (numsP 4) fun a => andP txtP fun t => andP lenI fun n => andP (txtsP n.toNat) fun c => retP ⟨a.getD 0 0, a.getD 1 0, a.getD 2 0, a.getD 3 0, t, c⟩ := by
  funext l
  simp only [recP, andP, retP, numsP, lenI, Option.bind_eq_bind]
  cases numP l with
  | none => rfl
  | some x1 =>
    obtain ⟨x1, l1⟩ := x1
    simp only [Option.bind_some]
    cases numP l1 with
    | none => rfl
    | some x2 =>
      obtain ⟨x2, l2⟩ := x2
      simp only [Option.bind_some]
      cases numP l2 with
      | none => rfl
      | some x3 =>
        obtain ⟨x3, l3⟩ := x3
        simp only [Option.bind_some]
        cases numP l3 with
        | none => rfl
        | some x4 =>
          obtain ⟨x4, l4⟩ := x4
          simp only [Option.bind_some]
          cases txtP l4 with
          | none => rfl
          | some x5 =>
            obtain ⟨x5, l5⟩ := x5
            simp only [Option.bind_some]
            cases lenP l5 with
            | none => rfl
            | some x6 =>
              obtain ⟨x6, l6⟩ := x6
              simp only [Option.bind_some, Option.map_some, Int.toNat_natCast]
              cases txtsP x6 l6 <;> rfl
end Go.Proofs.Ytoaembpakmpolaa
