/-
  The walks over the reference's reader: bytes, numbers, lengths, lists of numbers, texts.
-/
import Derived.Test.YtoaembpakmpolaaJouRefT
import Derived.Test.YtoaembpakmpolaaJouRef1
import Derived.Test.YtoaembpakmpolaaJouRd2
namespace Go.Proofs.Ytoaembpakmpolaa
open Go.RowKit Jou
attribute [local go_sem] ba_get ba_extract ba_append

/-- The reader at block p over bytes b: what is left, or that something was missing. -/
def Rst (w : World) (p : Nat) (b : List UInt8) (st : Option (List UInt8)) : Prop :=
  ∃ (A : Option Addr) (c at_ : Nat), w.cell? ⟨p, 0, none⟩ = some (.slice A b.length c) ∧ w.cell? ⟨p, 1, none⟩ = some (iV at_) ∧ w.cell? ⟨p, 2, none⟩ = some (.bool st.isNone) ∧ w.frozen? ⟨p, 1, none⟩ = false ∧ w.frozen? ⟨p, 2, none⟩ = false ∧ at_ ≤ b.length ∧ Rd w A (b.map bV) ∧ (∀ a, A = some a → a.block < p) ∧ b.length ≤ 4000 ∧ ∀ l, st = some l → l = b.drop at_
theorem Rst.lt {w : World} {p : Nat} {b : List UInt8} {st : Option (List UInt8)} (h : Rst w p b st) : p < w.heap.size := by
  obtain ⟨A, c, at_, h1, _⟩ := h
  exact World.block_lt_of_cell? w _ h1
theorem Rst.grown {w w' : World} {p : Nat} {b : List UInt8} {st : Option (List UInt8)} (h : Rst w p b st) {r : Nat} (hg : w.grownBy w' (some r)) (hr : p < r) : Rst w' p b st := by
  have hp := h.lt
  obtain ⟨A, c, at_, h0, h1, h2, f1, f2, h3, h4, h5, h6, h7⟩ := h
  have hb : w'.heap[p]? = w.heap[p]? := hg.block p hp (by simp; omega)
  exact ⟨A, c, at_, (World.cell?_of_block (a := ⟨p, 0, none⟩) hb).trans h0, (World.cell?_of_block (a := ⟨p, 1, none⟩) hb).trans h1, (World.cell?_of_block (a := ⟨p, 2, none⟩) hb).trans h2, (World.frozen?_of_block (a := ⟨p, 1, none⟩) hb).trans f1, (World.frozen?_of_block (a := ⟨p, 2, none⟩) hb).trans f2, h3,
    h4.same hg.size (fun a ha hl => hg.block _ hl (by have := h5 a ha; simp; omega)), h5, h6, h7⟩
theorem Rst.below {w w' : World} {p : Nat} {b : List UInt8} {st : Option (List UInt8)} (h : Rst w p b st) (hb : Below w.heap.size w w') : Rst w' p b st :=
  h.grown (r := w.heap.size) (grown_of_below hb _) h.lt
theorem Rst.alloc {w : World} {p : Nat} {b : List UInt8} {st : Option (List UInt8)} (h : Rst w p b st) (o : Obj) : Rst (w.alloc o) p b st := h.below (ba w o)
theorem bl_none {w w' : World} (hg : w.grownBy w' none) : Below w.heap.size w w' := ⟨hg.os, hg.tape, hg.output, hg.size, fun i hi => hg.block i hi (by simp)⟩
theorem Rst.app {w w' : World} {p base n k : Nat} {b : List UInt8} {st : Option (List UInt8)} {e : TypeId} {v : Value} {xs : List Value} (h : Rst w p b st) (hO : w.ownsRow base e k v n xs) (hg : w.grownBy w' v.ownBlock) (hb : p < base) : Rst w' p b st := by
  cases hv : v.ownBlock with
  | none => rw [hv] at hg; exact h.below (bl_none hg)
  | some r =>
    rw [hv] at hg
    have := (hO.lt r hv).1
    exact h.grown hg (by omega)
/-- A step that answers by a number with Q. -/
def IntR (p : Nat) (b : List UInt8) (st : Option (List UInt8)) (P : List UInt8 → Option (Int × List UInt8)) (Q : Int → Prop) (w : World) (e : Ending) (w' : World) : Prop :=
  ∃ n : Int, e = .returned (iV n) ∧ Q n ∧ w.grownBy w' (some p) ∧ Rst w' p b ((st.bind P).map (·.2)) ∧ ∀ x, st.bind P = some x → n = x.1
def oneI (l : List UInt8) : Option (Int × List UInt8) := (oneP l).map fun x => ((x.1 : Int), x.2)
def IsByte (n : Int) : Prop := 0 ≤ n ∧ n < 256
set_option maxHeartbeats 2000000 in
set_option maxRecDepth 100000 in
theorem one_any (p : Nat) (b : List UInt8) (st : Option (List UInt8)) (w : World) (hR : Rst w p b st) :
    Calls Try.prog 29 #[.pointer (some ⟨p, 0, none⟩)] w (IntR p b st oneI IsByte w) := by
  have hpl := hR.lt
  obtain ⟨A, c, at_, h0, h1, h2, f1, f2, h3, h4, h5, h6, h7⟩ := hR
  have H5 := Lib.hid h5; clear h5
  have H7 := Lib.hid h7; clear h7
  by_cases hlt : at_ < b.length
  · obtain ⟨bl, off, rfl, hbl, hc⟩ := h4.get (i := at_) (by simpa using hlt)
    have k4 : w.cell? ⟨bl, off + at_, none⟩ = some (bV b[at_]) := hc at_ _ (by simp [hlt])
    have hblp : bl < p := H5.out _ rfl
    have H4 := Lib.hid h4
    clear hc h4
    have hnb : ¬ (b.length : Int) ≤ (at_ : Int) := by omega
    have i1 : (0 : Int) ≤ (at_ : Int) := by omega
    have i2 : (at_ : Int) < (b.length : Int) := by omega
    have hby := UInt8.toNat_lt b[at_]
    have i3 : ((b[at_]).toNat : Int) < 256 := by omega
    have i4 : (0 : Int) ≤ ((b[at_]).toNat : Int) := by omega
    have HB : Hid (oneI (b.drop at_) = some (((b[at_]).toNat : Int), b.drop (at_ + 1))) := by
      show _ = _
      unfold oneI
      rw [List.drop_eq_getElem_cons hlt]
      rfl
    generalize b[at_] = x at *
    go_enter Try.func29, Try.ntmps29
    go_wp2
    go_quiet (fail)
    go_wp2
    have q0 : ((w.drewN nq).setCell ⟨p, 1, none⟩ (iV ((at_ : Int) + 1))).cell? ⟨p, 0, none⟩ = some (.slice (some ⟨bl, off, none⟩) b.length c) := by rw [World.cell?_setCell_other _ _ _ _ (by simp)]; exact h0
    have q1 : ((w.drewN nq).setCell ⟨p, 1, none⟩ (iV ((at_ : Int) + 1))).cell? ⟨p, 1, none⟩ = some (iV ((at_ : Int) + 1)) := World.cell?_setCell_same' _ _ _ (by rw [show (w.drewN nq).cell? ⟨p, 1, none⟩ = _ from h1]; rfl)
    have q2 : ((w.drewN nq).setCell ⟨p, 1, none⟩ (iV ((at_ : Int) + 1))).cell? ⟨p, 2, none⟩ = some (.bool st.isNone) := by rw [World.cell?_setCell_other _ _ _ _ (by simp)]; exact h2
    have q3 : ((w.drewN nq).setCell ⟨p, 1, none⟩ (iV ((at_ : Int) + 1))).frozen? ⟨p, 1, none⟩ = false := by rw [World.frozen?_setCell]; exact f1
    have q4 : ((w.drewN nq).setCell ⟨p, 1, none⟩ (iV ((at_ : Int) + 1))).frozen? ⟨p, 2, none⟩ = false := by rw [World.frozen?_setCell]; exact f2
    have q5 : ((w.drewN nq).setCell ⟨p, 1, none⟩ (iV ((at_ : Int) + 1))).cell? ⟨bl, off + at_, none⟩ = some (bV x) := by rw [World.cell?_setCell_other _ _ _ _ (by simp <;> omega)]; exact k4
    have HG : Hid (w.grownBy ((w.drewN nq).setCell ⟨p, 1, none⟩ (iV ((at_ : Int) + 1))) (some p)) := gt (g_drewN (gr w _) nq) (g_set _ p 1 _)
    have HRD : Hid (Rd ((w.drewN nq).setCell ⟨p, 1, none⟩ (iV ((at_ : Int) + 1))) (some ⟨bl, off, none⟩) (b.map bV)) := H4.out.same HG.out.size (fun a ha hl => HG.out.block _ hl (by cases ha; simp; omega))
    clear h0 h1 h2 f1 f2 k4
    generalize ((w.drewN nq).setCell ⟨p, 1, none⟩ (iV ((at_ : Int) + 1))) = W2 at *
    have w1 : IntKind.i64.wrap ((at_ : Int) + 1 - 1) = (at_ : Int) := by rw [IntWalk.i64_in _ (by omega)]; omega
    have w2 : IntKind.i64.wrap (at_ : Int) = (at_ : Int) := IntWalk.i64_in _ (by omega)
    have w3 : IntKind.i64.wrap (x.toNat : Int) = (x.toNat : Int) := IntWalk.i64_in _ (by omega)
    go_quiet (fail)
    go_wp2
    go_ret
    refine ⟨_, rfl, ⟨by omega, by omega⟩, g_drewN HG.out _, ?_, ?_⟩
    · refine ⟨_, c, at_ + 1, q0, by rw [show ((at_ + 1 : Nat) : Int) = (at_ : Int) + 1 by omega]; exact q1, ?_, q3, q4, hlt, HRD.out, H5.out, h6, ?_⟩
      · cases st with
        | none => exact q2
        | some l => rw [Option.bind_some, H7.out l rfl, HB.out]; exact q2
      · intro l hl
        cases st with
        | none => cases hl
        | some l' =>
          rw [Option.bind_some, H7.out l' rfl, HB.out] at hl
          cases hl; rfl
    · intro y hy
      cases st with
      | none => cases hy
      | some l' =>
        rw [Option.bind_some, H7.out l' rfl, HB.out] at hy
        cases hy; rfl
  · have hle : (b.length : Int) ≤ (at_ : Int) := by omega
    have HB : Hid (oneI (b.drop at_) = none) := by
      show _ = _
      rw [List.drop_of_length_le (by omega)]; rfl
    have HBN : Hid (st.bind oneI = none) := by
      show _ = _
      cases st with
      | none => rfl
      | some l => rw [Option.bind_some, H7.out l rfl]; exact HB.out
    have HA := Lib.hid h4; clear h4
    go_enter Try.func29, Try.ntmps29
    go_wp2
    go_quiet (fail)
    go_wp2
    go_ret
    have HG : w.grownBy ((w.drewN nq).setCell ⟨p, 2, none⟩ (.bool true)) (some p) := gt (g_drewN (gr w _) nq) (g_set _ p 2 _)
    refine ⟨0, rfl, ⟨by omega, by omega⟩, HG, ?_, ?_⟩
    · rw [HBN.out]
      refine ⟨A, c, at_, by rw [World.cell?_setCell_other _ _ _ _ (by simp)]; exact h0, by rw [World.cell?_setCell_other _ _ _ _ (by simp)]; exact h1, World.cell?_setCell_same' _ _ _ (by rw [show (w.drewN nq).cell? ⟨p, 2, none⟩ = _ from h2]; rfl), by rw [World.frozen?_setCell]; exact f1, by rw [World.frozen?_setCell]; exact f2, h3, HA.out.same HG.size (fun a ha hl => HG.block _ hl (by have := H5.out a ha; simp; omega)), H5.out, h6, fun l hl => by cases hl⟩
    · intro y hy
      rw [HBN.out] at hy
      cases hy
/-- k bytes further. -/
def tk (k : Nat) (st : Option (List UInt8)) : Option (List UInt8) := st.bind fun l => if k ≤ l.length then some (l.drop k) else none
theorem tk_zero (st : Option (List UInt8)) : tk 0 st = st := by cases st <;> simp [tk]
theorem tk_one (k : Nat) (st : Option (List UInt8)) : ((tk k st).bind oneI).map (·.2) = tk (k + 1) st := by
  cases st with
  | none => rfl
  | some l =>
    unfold tk
    simp only [Option.bind_some]
    by_cases h : k ≤ l.length
    · rw [if_pos h]
      by_cases h2 : k < l.length
      · rw [if_pos (by omega), Option.bind_some, List.drop_eq_getElem_cons h2]; rfl
      · rw [if_neg (by omega), Option.bind_some, List.drop_of_length_le (by omega)]; rfl
    · rw [if_neg h, if_neg (by omega)]; rfl
theorem tk_byte {k : Nat} {l : List UInt8} (h : k < l.length) : (tk k (some l)).bind oneI = some ((l[k].toNat : Int), l.drop (k + 1)) := by
  unfold tk
  rw [Option.bind_some, if_pos (by omega), Option.bind_some, List.drop_eq_getElem_cons h]; rfl
theorem wrap_i64 (n : Int) : I64 (IntKind.i64.wrap n) := by
  unfold I64
  rw [IntKind.wrap_i64]; omega
theorem or_i64 (a c : Int) : I64 (bits .or .i64 a c) := by
  show I64 (IntKind.i64.wrap _)
  exact wrap_i64 _
theorem or_step (m x : Nat) (hm : m < 72057594037927936) (hx : x < 256) : bits .or .i64 (wrap64 (toI m * 256)) (x : Int) = toI (m * 256 + x) := by
  have e0 : toI m = (m : Int) := by unfold toI; rw [if_pos (by omega)]
  rw [e0]
  show IntKind.i64.wrap ((BitVec.ofInt 64 (wrap64 ((m : Int) * 256)) ||| BitVec.ofInt 64 (x : Int)).toNat : Int) = _
  have h1 : (BitVec.ofInt 64 (wrap64 ((m : Int) * 256))).toNat = m * 256 := by
    rw [BitVec.toNat_ofInt]; unfold wrap64; simp only [Nat.reducePow]; omega
  have h2 : (BitVec.ofInt 64 (x : Int)).toNat = x := by
    rw [BitVec.toNat_ofInt]; simp only [Nat.reducePow]; omega
  have h3 := Nat.two_pow_add_eq_or_of_lt (i := 8) (b := x) (by omega) m
  rw [BitVec.toNat_or, h1, h2, Nat.mul_comm m 256, show (256 : Nat) = 2 ^ 8 from rfl, ← h3, IntKind.wrap_i64]
  unfold toI
  simp only [Nat.reducePow]
  split <;> omega
theorem tk_num (st : Option (List UInt8)) : (st.bind numP).map (·.2) = tk 8 st := by
  cases st with
  | none => rfl
  | some l =>
    unfold tk numP
    simp only [Option.bind_some]
    split <;> rfl
theorem tk_len (st : Option (List UInt8)) : (st.bind lenP).map (·.2) = tk 2 st := by
  cases st with
  | none => rfl
  | some l =>
    unfold tk lenP
    simp only [Option.bind_some]
    split <;> rfl
set_option maxHeartbeats 2000000 in
set_option maxRecDepth 100000 in
theorem fnum_any (p : Nat) (b : List UInt8) (st : Option (List UInt8)) (w : World) (hR : Rst w p b st) :
    Calls Try.prog 30 #[.pointer (some ⟨p, 0, none⟩)] w (IntR p b st numP I64 w) := by
  have HR := Lib.hid hR; clear hR
  go_enter Try.func30, Try.ntmps30
  go_wp2
  go_loopw [3, 4] (fun n i wr => ∃ (k : Nat) (m : Int), k ≤ 8 ∧ i = iV k ∧ n = iV m ∧ I64 m ∧ Hid (w.grownBy wr (some p)) ∧ Hid (Rst wr p b (tk k st)) ∧ Hid (∀ l, st = some l → k ≤ l.length → m = toI (be (l.take k)))) (fun _ i _ => 8 - (intOf i).toNat)
  case atStart => exact ⟨0, 0, by omega, rfl, rfl, ⟨by omega, by omega⟩, gr _ _, by show Rst _ _ _ _; rw [tk_zero]; exact HR.out, fun l _ _ => by rw [List.take_zero]; rfl⟩
  case round =>
    obtain ⟨k, m, hk, rfl, rfl, ⟨hm1, hm2⟩, HG, HS, HV⟩ := hrel
    by_cases hlt : k < 8
    · go_wp2_with fail
      refine (one_any p b _ _ HS.out).mono ?_
      rintro e w1 ⟨x, rfl, ⟨hx1, hx2⟩, hg, hs, hv⟩
      rw [tk_one] at hs
      have HG1 := Lib.hid (gt HG.out hg)
      have HS1 := Lib.hid hs
      have HX := Lib.hid hv
      clear hg hs hv
      go_wp2
      refine ⟨⟨k + 1, _, by omega, by go_num, rfl, or_i64 _ _, HG1, HS1, fun l hl hle => ?_⟩, by simp [intOf]; omega⟩
      subst hl
      rw [HX.out _ (tk_byte hle), HV.out l rfl (by omega)]
      have h1 := be_lt (l.take k)
      have h3 : 256 ^ (l.take k).length ≤ 256 ^ 7 := Nat.pow_le_pow_right (by decide) (by simp; omega)
      have h5 : be (l.take k) < 72057594037927936 := Nat.lt_of_lt_of_le h1 h3
      rw [or_step _ _ h5 (UInt8.toNat_lt _), be_take_succ l k (by omega)]
    · obtain rfl : k = 8 := by omega
      go_wp2
      go_ret
      refine ⟨_, rfl, ⟨hm1, hm2⟩, HG.out, by rw [tk_num]; exact HS.out, fun y hy => ?_⟩
      cases st with
      | none => cases hy
      | some l =>
        rw [Option.bind_some] at hy
        unfold numP at hy
        split at hy
        · cases hy; exact HV.out l rfl (by assumption)
        · cases hy
def lenI (l : List UInt8) : Option (Int × List UInt8) := (lenP l).map fun x => ((x.1 : Int), x.2)
def IsLen (n : Int) : Prop := 0 ≤ n ∧ n ≤ 65535
theorem tk_lenI (st : Option (List UInt8)) : (st.bind lenI).map (·.2) = tk 2 st := by
  rw [← tk_len]
  cases st with
  | none => rfl
  | some l => simp only [Option.bind_some, lenI]; cases lenP l <;> rfl
set_option maxHeartbeats 2000000 in
theorem flen_any (p : Nat) (b : List UInt8) (st : Option (List UInt8)) (w : World) (hR : Rst w p b st) :
    Calls Try.prog 63 #[.pointer (some ⟨p, 0, none⟩)] w (IntR p b st lenI IsLen w) := by
  have HR := Lib.hid hR; clear hR
  go_enter Try.func63, Try.ntmps63
  go_wp2_with fail
  refine (one_any p b _ _ HR.out).mono ?_
  rintro e w1 ⟨x, rfl, ⟨hx1, hx2⟩, hg, hs, hv⟩
  have HG1 := Lib.hid hg
  have HS1 := Lib.hid hs
  have HX := Lib.hid hv
  clear hg hs hv
  go_wp2_with fail
  refine (one_any p b _ _ HS1.out).mono ?_
  rintro e w2 ⟨y, rfl, ⟨hy1, hy2⟩, hg, hs, hv⟩
  have HG2 := Lib.hid (gt HG1.out hg)
  have HS2 := Lib.hid hs
  have HY := Lib.hid hv
  clear hg hs hv
  go_wp2
  go_ret
  have e1 : (st.bind oneI).map (·.2) = tk 1 st := by
    have := tk_one 0 st
    rwa [tk_zero] at this
  have hs := HS2.out
  have hy := HY.out
  rw [e1] at hs hy
  rw [tk_one] at hs
  refine ⟨_, rfl, ⟨by omega, by omega⟩, HG2.out, by rw [tk_lenI]; exact hs, fun z hz => ?_⟩
  cases st with
  | none => cases hz
  | some l =>
    rw [Option.bind_some] at hz
    unfold lenI lenP at hz
    split at hz
    · rename_i h2
      cases hz
      have hx := HX.out _ (by have := tk_byte (k := 0) (l := l) (by omega); rw [tk_zero] at this; exact this)
      have hy := hy _ (tk_byte (k := 1) (l := l) (by omega))
      simp only at hx hy
      have e2 : l.take 2 = [l[0], l[1]] := by
        rw [show (2 : Nat) = 1 + 1 from rfl, List.take_succ_eq_append_getElem (by omega), List.take_succ_eq_append_getElem (by omega)]; rfl
      simp only
      rw [e2, hx, hy]
      simp [be]
      omega
    · cases hz
theorem numsP_snoc : ∀ (k : Nat) (l : List UInt8), numsP (k + 1) l = (numsP k l).bind fun a => (numP a.2).bind fun x => some (a.1 ++ [x.1], x.2)
  | 0, l => by
    simp only [numsP, Option.bind_some, List.nil_append]
    cases numP l <;> rfl
  | k + 1, l => by
    have e : ∀ (m : Nat) (l : List UInt8), numsP (m + 1) l = (numP l).bind fun x => (numsP m x.2).bind fun a => some (x.1 :: a.1, a.2) := fun m l => by
      simp only [numsP]
      cases numP l with
      | none => rfl
      | some x => simp only [Option.bind_some]; cases numsP m x.2 <;> rfl
    rw [e (k + 1) l, e k l]
    cases numP l with
    | none => rfl
    | some x =>
      simp only [Option.bind_some]
      rw [numsP_snoc k x.2]
      cases numsP k x.2 with
      | none => rfl
      | some a =>
        simp only [Option.bind_some]
        cases numP a.2 <;> rfl
theorem numsP_more {k n : Nat} {l : List UInt8} (h : numsP k l = none) (hkn : k ≤ n) : numsP n l = none := by
  obtain ⟨d, rfl⟩ : ∃ d, n = k + d := ⟨n - k, by omega⟩
  clear hkn
  induction d with
  | zero => exact h
  | succ d ih => rw [show k + (d + 1) = k + d + 1 from rfl, numsP_snoc, ih]; rfl
theorem nums_more {k n : Nat} {st : Option (List UInt8)} (h : st.bind (numsP k) = none) (hkn : k ≤ n) : st.bind (numsP n) = none := by
  cases st with
  | none => rfl
  | some l => exact numsP_more h hkn
theorem nums_len {n : Nat} {st : Option (List UInt8)} (x : List Int × List UInt8) (h : st.bind (numsP n) = some x) : ¬ x.1.length < n := by
  cases st with
  | none => cases h
  | some l =>
    have := (nums_numsP n (l := l) (r := x.2) (ns := x.1) (by simpa using h)).2.1
    omega
theorem nums_step (k : Nat) (st : Option (List UInt8)) : (((st.bind (numsP k)).map (·.2)).bind numP).map (·.2) = (st.bind (numsP (k + 1))).map (·.2) := by
  cases st with
  | none => rfl
  | some l =>
    simp only [Option.bind_some]
    rw [numsP_snoc]
    cases numsP k l with
    | none => rfl
    | some a =>
      simp only [Option.map_some, Option.bind_some]
      cases numP a.2 <;> rfl
theorem nums_val {k : Nat} {st : Option (List UInt8)} {ns : List Int} {m : Int} (h : ∀ x, st.bind (numsP k) = some x → ns = x.1) (hm : ∀ x, ((st.bind (numsP k)).map (·.2)).bind numP = some x → m = x.1) : ∀ x, st.bind (numsP (k + 1)) = some x → ns ++ [m] = x.1 := by
  intro x hx
  cases st with
  | none => cases hx
  | some l =>
    simp only [Option.bind_some] at h hm hx
    rw [numsP_snoc] at hx
    cases hk : numsP k l with
    | none => rw [hk] at hx; cases hx
    | some a =>
      rw [hk] at hx hm h
      simp only [Option.bind_some, Option.map_some] at hx hm
      cases hp : numP a.2 with
      | none => rw [hp] at hx; cases hx
      | some y =>
        rw [hp] at hx hm
        cases hx
        rw [h a rfl, hm y rfl]
/-- A step that answers by a list of numbers in a row of the call's own. -/
def ListR (p : Nat) (b : List UInt8) (st : Option (List UInt8)) (n : Nat) (w : World) (e : Ending) (w' : World) : Prop :=
  ∃ (ns : List Int) (A : Option Addr) (c : Nat), e = .returned (.slice A ns.length c) ∧ ns.length = n ∧ (∀ x ∈ ns, I64 x) ∧ w'.ownsRow w.heap.size 3 1 (.slice A ns.length c) ns.length (ns.map iV) ∧ w.grownBy w' (some p) ∧ Rst w' p b ((st.bind (numsP n)).map (·.2)) ∧ ∀ x, st.bind (numsP n) = some x → ns = x.1
theorem one_ints (l : List Int) : ∀ u ∈ l.map iV, u.oneCell' = true := by intro u hu; obtain ⟨n, _, rfl⟩ := List.mem_map.1 hu; rfl
theorem own_newI (w : World) (t : TypeId) : (w.alloc (.cells #[] t)).ownsRow w.heap.size t 1 (.slice (some ⟨w.heap.size, 0, none⟩) 0 0) 0 [] :=
  ⟨by simp, .inr ⟨w.heap.size, 0, _, rfl, Nat.le_refl _, heap_alloc_new w _, Nat.le_refl _, by decide, by simp, by simp⟩⟩
theorem Rst.bad {w : World} {p : Nat} {b : List UInt8} {st : Option (List UInt8)} (h : Rst w p b st) : w.cell? ⟨p, 2, none⟩ = some (.bool st.isNone) := by
  obtain ⟨A, c, at_, h0, h1, h2, _⟩ := h
  exact h2
set_option maxHeartbeats 4000000 in
set_option maxRecDepth 100000 in
theorem fnums_any (p : Nat) (b : List UInt8) (st : Option (List UInt8)) (n : Nat) (w : World) (hR : Rst w p b st) (hn : n ≤ 9) :
    Calls Try.prog 35 #[.pointer (some ⟨p, 0, none⟩), iV n] w (ListR p b st n w) := by
  obtain ⟨i0, hi0, hz0, hz1, hz2⟩ := info_parts intInfo
  have hpl := hR.lt
  have HR := Lib.hid hR; clear hR
  have hn10 : (n : Int) < 10 := by omega
  go_enter Try.func35, Try.ntmps35
  go_wp2
  go_loopg [5, 6] n (fun g v i wr => ∃ (k : Nat) (ns : List Int), k + g = n ∧ ns.length = k ∧ i = iV k ∧ (∀ x ∈ ns, I64 x) ∧ Hid (wr.ownsRow w.heap.size 3 1 v ns.length (ns.map iV)) ∧ Hid (w.grownBy wr (some p)) ∧ Hid (Rst wr p b ((st.bind (numsP k)).map (·.2))) ∧ Hid (∀ x, st.bind (numsP k) = some x → ns = x.1))
  case atStart =>
    refine ⟨0, [], by omega, rfl, rfl, fun x hx => (by cases hx), own_newI w _, g_alloc (gr _ _) _, ?_, fun x hx => ?_⟩
    · show Rst _ _ _ _
      have : (st.bind (numsP 0)).map (·.2) = st := by cases st <;> rfl
      rw [this]; exact HR.out.alloc _
    · cases st with
      | none => cases hx
      | some l => cases hx; rfl
  case round =>
    obtain ⟨k, ns, hkg, hnl, rfl, hni, HO, HG, HS, HV⟩ := hrel
    have HI := Lib.hid hni; clear hni
    have hnl1 : ns.length ≤ k := by omega
    have hnl2 : k ≤ ns.length := by omega
    clear hnl
    obtain ⟨wo, rfl⟩ : ∃ wo : World, wo = wr := ⟨_, rfl⟩
    obtain ⟨A2, c2, rfl⟩ := own_form HO.out
    have hb := HS.out.bad
    by_cases hlt : k < n
    · cases hst : st.bind (numsP k) with
      | none =>
        rw [hst] at hb
        have HF : Hid (Rst wo p b ((st.bind (numsP n)).map (·.2))) := by show Rst _ _ _ _; rw [nums_more hst (Nat.le_of_lt hlt), ← hst]; exact HS.out
        have HFV : Hid (∀ x, st.bind (numsP n) = some x → ns = x.1) := fun x hx => by rw [nums_more hst (Nat.le_of_lt hlt)] at hx; cases hx
        change wo.cell? ⟨p, 2, none⟩ = some (.bool true) at hb
        clear hst HS HV
        go_wp2
        go_loopg [5] (n - ns.length) (fun g v wq => ∃ ms : List Int, ms.length + g = n ∧ (∀ x ∈ ms, I64 x) ∧ Hid (wq.ownsRow w.heap.size 3 1 v ms.length (ms.map iV)) ∧ Hid (w.grownBy wq (some p)) ∧ Hid (Rst wq p b ((st.bind (numsP n)).map (·.2))) ∧ Hid (∀ x, st.bind (numsP n) = some x → ms = x.1))
        case atStart => exact ⟨ns, by omega, HI.out, HO, HG, HF, HFV⟩
        case round =>
          obtain ⟨ms, hms, hmi, HO2, HG2, HS2, HV2⟩ := hrel
          have HMI := Lib.hid hmi; clear hmi
          obtain ⟨wq, rfl⟩ : ∃ wq : World, wq = wr := ⟨_, rfl⟩
          obtain ⟨A5, c5, rfl⟩ := own_form HO2.out
          cases gk with
          | zero =>
            have hle : ¬ (ms.length : Int) < (n : Int) := by omega
            go_wp2
            go_ret
            exact ⟨ms, A5, c5, rfl, by omega, HMI.out, HO2.out, HG2.out, HS2.out, HV2.out⟩
          | succ g1 =>
            have hlt2 : (ms.length : Int) < (n : Int) := by omega
            go_wp2_with (at_builtin; go_must (refine wpList_app (by rfl) (.tmp 33) (.tmp 34) _ _ (by rfl) w.heap.size 3 i0 _ 1 8 Try.underlying29 hi0 hz0 hz1 hz2 (by rfl) _ ms.length (ms.map iV) (by rfl) (HO2.out.alloc _) _ (by rfl) 1 ([(0 : Int)].map iV) (src_rd Try.underlying29 (Rd.new wq [iV 0] 3) (by rfl) (one_ints _)) (by unfold maxLen; omega) (by omega) (by have := HG2.out.size; simp; omega) ?_); intro A6 c6 w6 hown6 hgrow6 _; have HO6 := Lib.hid hown6; have HG6 := Lib.hid (g_own (g_alloc HG2.out _) (HO2.out.alloc _) hgrow6 (Nat.le_refl _)); have HS6 := Lib.hid ((HS2.out.alloc _).app (HO2.out.alloc _) hgrow6 hpl); clear hown6 hgrow6)
            go_roundg g1
            case measure => omega
            case rel => exact ⟨ms ++ [0], by simp; omega, fun x hx => (List.mem_append.1 hx).elim (HMI.out x) (fun h => by rw [List.mem_singleton.1 h]; exact ⟨by omega, by omega⟩), by show World.ownsRow _ _ _ _ _ _ _; rw [List.map_append, List.length_append]; exact HO6.out, HG6, HS6, fun x hx => absurd (nums_len _ hx) (by rw [← HV2.out x hx]; omega)⟩
      | some y =>
        have hsn : ((st.bind (numsP k)).map (·.2)).isNone = false := by rw [hst]; rfl
        rw [hsn] at hb
        clear hst hsn
        go_wp2_with fail
        refine (fnum_any p b _ _ HS.out).mono ?_
        rintro e w3 ⟨m, rfl, hm, hg, hs, hv⟩
        rw [nums_step] at hs
        have HM := Lib.hid hm
        have HG3 := Lib.hid (gt HG.out hg)
        have HS3 := Lib.hid hs
        have HV3 := Lib.hid (nums_val HV.out hv)
        have HO3 := Lib.hid (own_g HO.out hg hpl)
        clear hg hs hv hm hb
        obtain ⟨g1, rfl⟩ : ∃ g1, gk = g1 + 1 := ⟨gk - 1, by omega⟩
        go_wp2_with (at_builtin; go_must (refine wpList_app (by rfl) (.tmp 20) (.tmp 23) _ _ (by rfl) w.heap.size 3 i0 _ 1 8 Try.underlying29 hi0 hz0 hz1 hz2 (by rfl) _ ns.length (ns.map iV) (by rfl) (HO3.out.alloc _) _ (by rfl) 1 ([m].map iV) (src_rd Try.underlying29 (Rd.new w3 [iV m] 3) (by rfl) (one_ints _)) (by unfold maxLen; omega) (by omega) (by have := HG3.out.size; simp; omega) ?_); intro A4 c4 w4 hown4 hgrow4 _; have HO4 := Lib.hid hown4; have HG4 := Lib.hid (g_own (g_alloc HG3.out _) (HO3.out.alloc _) hgrow4 (Nat.le_refl _)); have HS4 := Lib.hid ((HS3.out.alloc _).app (HO3.out.alloc _) hgrow4 hpl); clear hown4 hgrow4)
        go_roundg g1
        case measure => omega
        case rel => exact ⟨k + 1, ns ++ [m], by omega, by simp; omega, by go_num, fun x hx => (List.mem_append.1 hx).elim (HI.out x) (fun h => by rw [List.mem_singleton.1 h]; exact HM.out), by show World.ownsRow _ _ _ _ _ _ _; rw [List.map_append, List.length_append]; exact HO4.out, HG4, HS4, HV3⟩
    · obtain rfl : k = n := by omega
      have HF := HS
      have HFV := HV
      clear HS HV hb
      have hlt' : ¬ (ns.length : Int) < (k : Int) := by omega
      go_wp2
      go_loopg [5] (k - ns.length) (fun g v wq => ∃ ms : List Int, ms.length + g = k ∧ (∀ x ∈ ms, I64 x) ∧ Hid (wq.ownsRow w.heap.size 3 1 v ms.length (ms.map iV)) ∧ Hid (w.grownBy wq (some p)) ∧ Hid (Rst wq p b ((st.bind (numsP k)).map (·.2))) ∧ Hid (∀ x, st.bind (numsP k) = some x → ms = x.1))
      case atStart => exact ⟨ns, by omega, HI.out, HO, HG, HF, HFV⟩
      case round =>
        obtain ⟨ms, hms, hmi, HO2, HG2, HS2, HV2⟩ := hrel
        have HMI := Lib.hid hmi; clear hmi
        obtain ⟨wq, rfl⟩ : ∃ wq : World, wq = wr := ⟨_, rfl⟩
        obtain ⟨A5, c5, rfl⟩ := own_form HO2.out
        cases gk with
        | zero =>
          have hle : ¬ (ms.length : Int) < (k : Int) := by omega
          go_wp2
          go_ret
          exact ⟨ms, A5, c5, rfl, by omega, HMI.out, HO2.out, HG2.out, HS2.out, HV2.out⟩
        | succ g1 =>
          have hlt2 : (ms.length : Int) < (k : Int) := by omega
          go_wp2_with (at_builtin; go_must (refine wpList_app (by rfl) (.tmp 33) (.tmp 34) _ _ (by rfl) w.heap.size 3 i0 _ 1 8 Try.underlying29 hi0 hz0 hz1 hz2 (by rfl) _ ms.length (ms.map iV) (by rfl) (HO2.out.alloc _) _ (by rfl) 1 ([(0 : Int)].map iV) (src_rd Try.underlying29 (Rd.new wq [iV 0] 3) (by rfl) (one_ints _)) (by unfold maxLen; omega) (by omega) (by have := HG2.out.size; simp; omega) ?_); intro A6 c6 w6 hown6 hgrow6 _; have HO6 := Lib.hid hown6; have HG6 := Lib.hid (g_own (g_alloc HG2.out _) (HO2.out.alloc _) hgrow6 (Nat.le_refl _)); have HS6 := Lib.hid ((HS2.out.alloc _).app (HO2.out.alloc _) hgrow6 hpl); clear hown6 hgrow6)
          go_roundg g1
          case measure => omega
          case rel => exact ⟨ms ++ [0], by simp; omega, fun x hx => (List.mem_append.1 hx).elim (HMI.out x) (fun h => by rw [List.mem_singleton.1 h]; exact ⟨by omega, by omega⟩), by show World.ownsRow _ _ _ _ _ _ _; rw [List.map_append, List.length_append]; exact HO6.out, HG6, HS6, fun x hx => absurd (nums_len _ hx) (by rw [← HV2.out x hx]; omega)⟩
/-- 'string(b)'. -/
theorem wpList_conv {P : Program} {w : World} {ops : Array Oper} {rest : List Oper} {o : Oper} {a : Act} {Q : Exit → Act → World → Prop} (hgd : o.guard = none) (x : Operand) (src dst e : TypeId)
    (ho : o.op = .convert src dst x) (hs : P.underlying src = some (.slice e)) (he : P.underlying e = some (.int .u8)) (hd : P.underlying dst = some .string) {A : Option Addr} {c : Nat} (l : List UInt8) (hx : a.eval x = .slice A l.length c) (hr : Rd w A (l.map bV))
    (h : wpList P ops Q rest (a.put o.dst (sV l)) w) : wpList P ops Q (o :: rest) a w := by
  have hc := conv_rd (P := P) (dst := dst) hs he hd c hr
  refine wpList_plain hgd fun K hK => ?_
  unfold Oper.wp execOp
  simp only [ho, hx, Sem.run_bind, Sem.run_pure, Result.andThen_ok, hc]
  exact hK _ _ h
/-- A step that answers by a text. -/
def TextR (p : Nat) (b : List UInt8) (st : Option (List UInt8)) (w : World) (e : Ending) (w' : World) : Prop :=
  ∃ s : List UInt8, e = .returned (sV s) ∧ s.length ≤ 65535 ∧ w.grownBy w' (some p) ∧ Rst w' p b ((st.bind txtP).map (·.2)) ∧ ∀ x, st.bind txtP = some x → s = x.1
theorem txt_tk {st : Option (List UInt8)} {n : Nat} (h : ∀ x, st.bind lenI = some x → (n : Int) = x.1) : (st.bind txtP).map (·.2) = tk n ((st.bind lenI).map (·.2)) := by
  cases st with
  | none => rfl
  | some l =>
    simp only [Option.bind_some] at h ⊢
    unfold txtP
    unfold lenI at h ⊢
    cases hl : lenP l with
    | none => rfl
    | some x =>
      obtain ⟨m, l'⟩ := x
      rw [hl] at h
      have := h _ rfl
      simp only at this
      obtain rfl : n = m := by omega
      simp only [Option.map_some, tk, Option.bind_some, takeP]
      split <;> rfl
theorem txt_val {st : Option (List UInt8)} {n : Nat} {bs : List UInt8} (h : ∀ x, st.bind lenI = some x → (n : Int) = x.1) (hv : ∀ l, (st.bind lenI).map (·.2) = some l → n ≤ l.length → bs = l.take n) : ∀ x, st.bind txtP = some x → bs = x.1 := by
  intro x hx
  cases st with
  | none => cases hx
  | some l =>
    simp only [Option.bind_some] at h hv hx
    unfold txtP at hx
    unfold lenI at h hv
    cases hl : lenP l with
    | none => rw [hl] at hx; cases hx
    | some y =>
      obtain ⟨m, l'⟩ := y
      rw [hl] at h hx hv
      have := h _ rfl
      simp only at this
      obtain rfl : n = m := by omega
      simp only [takeP] at hx
      split at hx
      · cases hx
        exact hv l' rfl (by assumption)
      · cases hx
theorem tk_more {k n : Nat} {st : Option (List UInt8)} (h : tk k st = none) (hkn : k ≤ n) : tk n st = none := by
  cases st with
  | none => rfl
  | some l =>
    unfold tk at *
    simp only [Option.bind_some] at *
    split at h
    · cases h
    · rw [if_neg (by omega)]
theorem tk_some {k : Nat} {l : List UInt8} (h : k ≤ l.length) : tk k (some l) = some (l.drop k) := by unfold tk; rw [Option.bind_some, if_pos h]
set_option maxHeartbeats 4000000 in
set_option maxRecDepth 100000 in
theorem ftxt_any (p : Nat) (b : List UInt8) (st : Option (List UInt8)) (w : World) (hR : Rst w p b st) :
    Calls Try.prog 31 #[.pointer (some ⟨p, 0, none⟩)] w (TextR p b st w) := by
  obtain ⟨i0, hi0, hz0, hz1, hz2⟩ := info_parts byteInfo
  have hpl := hR.lt
  have HR := Lib.hid hR; clear hR
  go_enter Try.func31, Try.ntmps31
  go_wp2_with fail
  refine (flen_any p b _ _ HR.out).mono ?_
  rintro e w1 ⟨n0, rfl, ⟨hn1, hn2⟩, hg, hs, hv⟩
  obtain ⟨n, rfl⟩ := Int.eq_ofNat_of_zero_le hn1
  have hn3 : n ≤ 65535 := by omega
  have HG1 := Lib.hid hg
  have HS1 := Lib.hid hs
  have HN := Lib.hid hv
  have HE := Lib.hid (txt_tk hv)
  have HEV := Lib.hid (fun bs (h : ∀ l, (st.bind lenI).map (·.2) = some l → n ≤ l.length → bs = l.take n) => txt_val (bs := bs) hv h)
  clear hg hs hv hn1 hn2
  generalize (st.bind lenI).map (·.2) = s1 at *
  go_wp2
  go_loopg [4, 5] n (fun g v i wr => ∃ (k : Nat) (bs : List UInt8), k + g = n ∧ bs.length = k ∧ i = iV k ∧ Hid (wr.ownsRow w.heap.size 5 1 v bs.length (bs.map bV)) ∧ Hid (w.grownBy wr (some p)) ∧ Hid (Rst wr p b (tk k s1)) ∧ Hid (∀ l, s1 = some l → k ≤ l.length → bs = l.take k))
  case atStart =>
    refine ⟨0, [], by omega, rfl, rfl, own_base (own_newI w1 _) HG1.out.size, g_alloc HG1.out _, ?_, fun l _ _ => by rw [List.take_zero]⟩
    show Rst _ _ _ _
    rw [tk_zero]; exact HS1.out.alloc _
  case round =>
    obtain ⟨k, bs, hkg, hbl, rfl, HO, HG, HS, HV⟩ := hrel
    have hbl1 : bs.length ≤ k := by omega
    have hbl2 : k ≤ bs.length := by omega
    clear hbl
    obtain ⟨wo, rfl⟩ : ∃ wo : World, wo = wr := ⟨_, rfl⟩
    obtain ⟨A2, c2, rfl⟩ := own_form HO.out
    have hb := HS.out.bad
    by_cases hlt : k < n
    · cases hst : tk k s1 with
      | none =>
        rw [hst] at hb
        have HF : Hid (Rst wo p b ((st.bind txtP).map (·.2))) := by show Rst _ _ _ _; rw [HE.out, tk_more hst (Nat.le_of_lt hlt), ← hst]; exact HS.out
        have HFV : Hid (∀ x, st.bind txtP = some x → bs = x.1) := HEV.out _ fun l hl hle => by
          subst hl
          rw [tk_some (by omega)] at hst; cases hst
        change wo.cell? ⟨p, 2, none⟩ = some (.bool true) at hb
        clear hst HS HV
        go_wp2_with (first
          | (refine wpList_conv (by rfl) _ _ _ _ (by rfl) Try.underlying38 Try.underlying5 Try.underlying9 bs (by rfl) (own_rd HO.out) ?_))
        go_ret
        exact ⟨bs, rfl, by omega, HG.out, HF.out, HFV.out⟩
      | some y =>
        have hsn : (tk k s1).isNone = false := by rw [hst]; rfl
        rw [hsn] at hb
        clear hst hsn
        go_wp2_with fail
        refine (one_any p b _ _ HS.out).mono ?_
        rintro e w3 ⟨m, rfl, ⟨hm1, hm2⟩, hg, hs, hv⟩
        rw [tk_one] at hs
        obtain ⟨x, rfl⟩ : ∃ x : UInt8, m = (x.toNat : Int) := ⟨UInt8.ofNat m.toNat, by rw [UInt8.toNat_ofNat']; omega⟩
        have HG3 := Lib.hid (gt HG.out hg)
        have HS3 := Lib.hid hs
        have HV3 : Hid (∀ l, s1 = some l → k + 1 ≤ l.length → bs ++ [x] = l.take (k + 1)) := fun l hl hle => by
          subst hl
          have h1 := hv _ (tk_byte hle)
          simp only at h1
          have h2 : x = l[k] := UInt8.toNat_inj.1 (by omega)
          rw [HV.out l rfl (by omega), h2, ← List.take_succ_eq_append_getElem hle]
        have HO3 := Lib.hid (own_g HO.out hg hpl)
        have wx : IntKind.u8.wrap (x.toNat : Int) = (x.toNat : Int) := by rw [IntKind.wrap_u8]; omega
        clear hg hs hv hb
        obtain ⟨g1, rfl⟩ : ∃ g1, gk = g1 + 1 := ⟨gk - 1, by omega⟩
        go_wp2_with (at_builtin; go_must (refine wpList_app (by rfl) (.tmp 21) (.tmp 25) _ _ (by rfl) w.heap.size 5 i0 _ 1 1 Try.underlying38 hi0 hz0 hz1 hz2 (by rfl) _ bs.length (bs.map bV) (by rfl) (HO3.out.alloc _) _ (by rfl) 1 ([x].map bV) (src_rd Try.underlying38 (Rd.new w3 [bV x] 5) (by rfl) (one_b _)) (by unfold maxLen; omega) (by omega) (by have := HG3.out.size; simp; omega) ?_); intro A4 c4 w4 hown4 hgrow4 _; have HO4 := Lib.hid hown4; have HG4 := Lib.hid (g_own (g_alloc HG3.out _) (HO3.out.alloc _) hgrow4 (Nat.le_refl _)); have HS4 := Lib.hid ((HS3.out.alloc _).app (HO3.out.alloc _) hgrow4 hpl); clear hown4 hgrow4)
        go_roundg g1
        case measure => omega
        case rel => exact ⟨k + 1, bs ++ [x], by omega, by simp; omega, by go_num, by show World.ownsRow _ _ _ _ _ _ _; rw [List.map_append, List.length_append]; exact HO4.out, HG4, HS4, HV3⟩
    · obtain rfl : k = n := by omega
      have HF : Hid (Rst wo p b ((st.bind txtP).map (·.2))) := by show Rst _ _ _ _; rw [HE.out]; exact HS.out
      have HFV : Hid (∀ x, st.bind txtP = some x → bs = x.1) := HEV.out _ HV.out
      clear HS HV hb
      go_wp2_with (first
        | (refine wpList_conv (by rfl) _ _ _ _ (by rfl) Try.underlying38 Try.underlying5 Try.underlying9 bs (by rfl) (own_rd HO.out) ?_))
      go_ret
      exact ⟨bs, rfl, by omega, HG.out, HF.out, HFV.out⟩
end Go.Proofs.Ytoaembpakmpolaa
