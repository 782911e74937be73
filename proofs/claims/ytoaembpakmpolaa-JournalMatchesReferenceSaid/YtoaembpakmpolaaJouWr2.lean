/-
  The walks over the writer of package journal, going on: lengths, texts, posts, records, papers.
-/
import Derived.Test.YtoaembpakmpolaaJouWr
namespace Go.Proofs.Ytoaembpakmpolaa
open Go.RowKit Jou
attribute [local go_sem] ba_get ba_extract ba_append

theorem lenB_cells (n : Nat) (h : n ≤ 65535) : #[Value.int .u8 ((n : Int) / 256), Value.int .u8 ((n : Int) % 256)] = ((lenB n).map bV).toArray := by
  have h1 : n / 256 % 256 = n / 256 := Nat.mod_eq_of_lt (by omega)
  simp [lenB, bV, UInt8.toNat_ofNat', h1]
set_option maxHeartbeats 1000000 in
set_option maxRecDepth 100000 in
theorem length_any (p : Nat) (v : Value) (st : Option (List UInt8)) (n : Nat) (w : World) (hW : Wr w p v st) (hn : n ≤ maxLen) :
    Calls Try.prog 69 #[.pointer (some ⟨p, 0, none⟩), iV n] w fun e w' =>
      e = .returned (.tuple #[]) ∧ ∃ v', Wk p w w' v v' ∧ Wr w' p v' (lenW st n) := by
  unfold maxLen at hn
  have HW := Lib.hid hW
  obtain ⟨h1, h2, h3, h4, h5, h6, h7⟩ := hW
  clear h5 h6 h7
  by_cases hfit : n ≤ 65535
  · have hf' : ¬ (65535 : Int) < (n : Int) := by omega
    go_enter Try.func69, Try.ntmps69
    go_wp2_with fail
    rw [lenB_cells n hfit]
    refine (put_any p v _ _ (lenB n) 2 2 _ (HW.out.alloc _) (Rd.new _ _ _) rfl (by simp [lenB])).mono ?_
    rintro e w3 ⟨rfl, v3, hk3, hw3⟩
    have HK3 := Lib.hid ((Wk.alloc _ _ _ _).trans hk3); clear hk3
    have HW3 := Lib.hid hw3; clear hw3
    go_wp2
    go_end0
    refine ⟨rfl, v3, HK3.out, ?_⟩
    rw [lenW, if_pos hfit]
    exact HW3.out
  · have hf' : (65535 : Int) < (n : Int) := by omega
    go_enter Try.func69, Try.ntmps69
    go_wp2
    refine bodyPost_ret (results_none rfl _ _ _) rfl ?_
    refine ⟨rfl, _, (Wk.refl _ _ _).setCell _ _, ?_⟩
    rw [lenW, if_neg hfit]
    exact HW.out.fill

set_option maxHeartbeats 1000000 in
set_option maxRecDepth 100000 in
theorem texts_any (p : Nat) (v : Value) (st : Option (List UInt8)) (A : Option Addr) (ss : List (List UInt8)) (m c : Nat) (w : World) (hW : Wr w p v st) (hb : Rd w A (ss.map sV)) (hm : m = ss.length) (hl : ss.length ≤ 9223372036854775806)
    (hi : ∀ s ∈ ss, s.length ≤ maxLen) (hA : ∀ a, A = some a → Ap p v w a.block) :
    Calls Try.prog 44 #[.pointer (some ⟨p, 0, none⟩), .slice A m c] w fun e w' =>
      e = .returned (.tuple #[]) ∧ ∃ v', Wk p w w' v v' ∧ Wr w' p v' (txtsW st ss) := by
  subst hm
  have HB := Lib.hid hb; clear hb
  have HI := Lib.hid hi; clear hi
  have HA := Lib.hid hA; clear hA
  have HW := Lib.hid hW; clear hW
  go_enter Try.func44, Try.ntmps44
  go_wp2
  go_loopg [8] ss.length (fun g i wr => ∃ k v1, k + g = ss.length ∧ i = iV k ∧ Wk p w wr v v1 ∧ Wr wr p v1 (txtsW st (ss.take k)))
  case atStart => exact ⟨0, v, by simp, rfl, Wk.refl _ _ _, HW.out⟩
  case round =>
    obtain ⟨k, v1, hk, rfl, hk1, hw1⟩ := hrel
    have HK1 := Lib.hid hk1; clear hk1
    have HW1 := Lib.hid hw1; clear hw1
    cases gk with
    | zero =>
      have hlt : ¬ (k : Int) < (ss.length : Int) := by omega
      go_wp2
      go_end0
      refine ⟨rfl, v1, HK1.out, ?_⟩
      have := HW1.out
      rw [List.take_of_length_le (by omega)] at this
      exact this
    | succ g1 =>
      have hlt : (k : Int) < (ss.length : Int) := by omega
      have hlt' : k < ss.length := by omega
      obtain ⟨b, off, rfl, hb1, hc⟩ := HB.out.get (i := k) (by simpa using hlt')
      have hcell : wr.cell? ⟨b, off + k, none⟩ = some (sV ss[k]) := by
        rw [World.cell?_of_block (w := w) (a := ⟨b, off + k, none⟩) (HK1.out.heap (HA.out ⟨b, off, none⟩ rfl))]
        exact hc k _ (by simp [hlt'])
      have hn := HI.out ss[k] (List.getElem_mem _)
      obtain ⟨s, hs⟩ : ∃ s, s = ss[k] := ⟨_, rfl⟩
      rw [← hs] at hcell hn
      have hst : Hid (txtsW st (ss.take (k + 1)) = txtW (txtsW st (ss.take k)) s) := by
        show _ = _
        rw [List.take_add_one, List.getElem?_eq_getElem hlt', hs, txtsW, List.foldl_append]
        rfl
      have hlast : Hid (txtW (txtsW st (ss.take k)) s = none → txtsW st ss = none) := by
        intro h
        rw [← List.take_append_drop (k + 1) ss, txtsW, List.foldl_append]
        show txtsW (txtsW st (ss.take (k + 1))) _ = none
        rw [hst.out, h, txtsW_none]
      clear hc hs
      go_wp2_with fail
      refine (length_any p v1 _ s.length _ HW1.out hn).mono ?_
      rintro e w3 ⟨rfl, v3, hk3, hw3⟩
      have HK3 := Lib.hid (HK1.out.trans hk3); clear hk3
      obtain ⟨st3, hs3⟩ : ∃ st3, st3 = lenW (txtsW st (ss.take k)) s.length := ⟨_, rfl⟩
      rw [← hs3] at hw3
      have HS3 := Lib.hid hs3; clear hs3
      have HW3 := Lib.hid hw3
      obtain ⟨h1, h2, h3, h4, h5, ⟨A1, m1, c1, rfl⟩, h7⟩ := hw3
      clear h5
      clear hcell
      cases st3 with
      | none =>
        clear h7
        simp only [Option.isNone_none] at h2
        go_wp2
        refine bodyPost_ret (results_none rfl _ _ _) rfl ?_
        refine ⟨rfl, _, HK3.out.setCell _ _, ?_⟩
        rw [hlast.out (by rw [txtW, ← HS3.out]; rfl)]
        exact HW3.out.fill
      | some l =>
        simp only [Option.isNone_some] at h2
        have H7 := Lib.hid (h7 l rfl); clear h7
        have hm1 : m1 = l.length := by
          obtain ⟨A2, c2, he⟩ := own_form H7.out.2
          cases he; rfl
        subst hm1
        have h3000 := H7.out.1
        have hs65 : s.length ≤ 65535 := by
          have := HS3.out
          unfold lenW at this
          split at this
          · assumption
          · cases this
        have hwr : IntKind.i64.wrap ((l.length : Int) + (s.length : Int)) = (l.length : Int) + (s.length : Int) := IntWalk.i64_in _ (by omega)
        by_cases hfit : l.length + s.length ≤ 3000
        · have hf' : ¬ (3000 : Int) < (l.length : Int) + (s.length : Int) := by omega
          obtain ⟨i0, hi0, hz0, hz1, hz2⟩ := info_parts byteInfo
          go_wp2_with (at_builtin; refine wpList_app (by rfl) _ _ _ _ (by rfl) (p + 1) 5 i0 _ 1 1 Try.underlying38 hi0 hz0 hz1 hz2 (by rfl) _ l.length _ (by rfl) H7.out.2 _ (by rfl) s.length _ (src_text Try.underlying9 s) (by unfold maxLen; omega) (by omega) (by have := HW3.out.lt; omega) ?_)
          intro A' c' w4 hown hgrow hat
          have hp1 : some p ≠ (Value.slice A1 l.length c1).ownBlock := fun e => by have := (HW3.out.own p e.symm).1; omega
          have hc0 : w4.cell? ⟨p, 0, none⟩ = some (.slice A1 l.length c1) := (hgrow.cell_far ⟨p, 0, none⟩ HW3.out.lt hp1).trans h1
          have hf0 : w4.frozen? ⟨p, 0, none⟩ = false := (hgrow.frozen_far ⟨p, 0, none⟩ HW3.out.lt hp1).trans h3
          have HN := Lib.hid (HW3.out.appended hfit hown hgrow hat)
          clear hown hgrow hat hp1
          go_wp2
          go_roundg g1
          case measure => omega
          case rel =>
            refine ⟨k + 1, _, by omega, by go_num, HK3.out.trans HN.out.1, ?_⟩
            rw [hst.out, txtW, ← HS3.out, put, if_pos hfit]
            exact HN.out.2
        · have hf' : (3000 : Int) < (l.length : Int) + (s.length : Int) := by omega
          go_wp2
          refine bodyPost_ret (results_none rfl _ _ _) rfl ?_
          refine ⟨rfl, _, HK3.out.setCell _ _, ?_⟩
          rw [hlast.out (by rw [txtW, ← HS3.out, put, if_neg hfit])]
          exact HW3.out.fill
def I64 (n : Int) : Prop := -9223372036854775808 ≤ n ∧ n ≤ 9223372036854775807
def postCells (x : Post) : Array Value := #[sV x.label, iV x.frm, iV x.to, iV x.cls, iV x.acc]
def Post.Ok (x : Post) : Prop := x.label.length ≤ maxLen ∧ I64 x.frm ∧ I64 x.to ∧ I64 x.cls ∧ I64 x.acc
set_option maxHeartbeats 1000000 in
set_option maxRecDepth 100000 in
theorem posts_any (p : Nat) (v : Value) (st : Option (List UInt8)) (q : Nat) (x : Post) (t : TypeId) (fr : Nat × Nat) (w : World) (hW : Wr w p v st) (hq : w.heap[q]? = some (.cells (postCells x) t fr)) (hx : Post.Ok x) (hA : Ap p v w q) :
    Calls Try.prog 45 #[.pointer (some ⟨p, 0, none⟩), .slice (some ⟨q, 0, none⟩) 1 1] w fun e w' =>
      e = .returned (.tuple #[]) ∧ ∃ v', Wk p w w' v v' ∧ Wr w' p v' (postW st x) := by
  have HA := Lib.hid hA; clear hA
  have HW := Lib.hid hW; clear hW
  have HX := Lib.hid hx; clear hx
  have c0 : w.cell? ⟨q, 0, none⟩ = some (sV x.label) := cell_of_row w q 0 _ t fr hq
  have c1 : w.cell? ⟨q, 1, none⟩ = some (iV x.frm) := cell_of_row w q 1 _ t fr hq
  have c2 : w.cell? ⟨q, 2, none⟩ = some (iV x.to) := cell_of_row w q 2 _ t fr hq
  have c3 : w.cell? ⟨q, 3, none⟩ = some (iV x.cls) := cell_of_row w q 3 _ t fr hq
  have c4 : w.cell? ⟨q, 4, none⟩ = some (iV x.acc) := cell_of_row w q 4 _ t fr hq
  clear hq
  go_enter Try.func45, Try.ntmps45
  go_wp2
  go_loopg [8] 1 (fun g i wr => (g = 1 ∧ i = iV 0 ∧ wr = w) ∨ (g = 0 ∧ i = iV 1 ∧ ∃ v', Wk p w wr v v' ∧ Wr wr p v' (postW st x)))
  case atStart => exact .inl ⟨rfl, rfl, rfl⟩
  case round =>
    rcases hrel with ⟨rfl, rfl, rfl⟩ | ⟨rfl, rfl, v', hk, hw⟩
    · go_wp2_with fail
      have ha1 : Hid (Ap p v ((wr.alloc (Obj.cells (postCells x) 23)).alloc (Obj.cells #[sV x.label] 9)) wr.heap.size) := (HW.out.ap_new _).alloc _
      have hB1 : Hid (((wr.alloc (Obj.cells (postCells x) 23)).alloc (Obj.cells #[sV x.label] 9)).heap[wr.heap.size]? = some (Obj.cells (postCells x) 23 (0, 0))) :=
        (Below.heap_alloc _ _ _ (by simp)).trans (heap_alloc_new _ _)
      refine (texts_any p v st _ [x.label] 1 1 _ ((HW.out.alloc _).alloc _) (by simpa using Rd.new (wr.alloc _) [sV x.label] _) rfl (by simp) (by simpa using HX.out.1) (fun a ha => by cases ha; simpa using (HW.out.alloc _).ap_new _)).mono ?_
      rintro e w3 ⟨rfl, v3, hk3, hw3⟩
      have ha3 := Lib.hid (hk3.ap ha1.out)
      have hB3 := (hk3.heap ha1.out).trans hB1.out
      have d1 : w3.cell? ⟨wr.heap.size, 1, none⟩ = some (iV x.frm) := cell_of_row w3 _ 1 _ _ _ hB3
      have d2 : w3.cell? ⟨wr.heap.size, 2, none⟩ = some (iV x.to) := cell_of_row w3 _ 2 _ _ _ hB3
      have d3 : w3.cell? ⟨wr.heap.size, 3, none⟩ = some (iV x.cls) := cell_of_row w3 _ 3 _ _ _ hB3
      have d4 : w3.cell? ⟨wr.heap.size, 4, none⟩ = some (iV x.acc) := cell_of_row w3 _ 4 _ _ _ hB3
      have HK3 := Lib.hid ((Wk.alloc p _ _ _).trans ((Wk.alloc p _ _ _).trans hk3))
      clear hk3 hB3 hB1 ha1 c0 c1 c2 c3 c4
      have HW3 := Lib.hid hw3; clear hw3
      go_wp2_with fail
      refine (numbers_any p v3 _ _ [x.frm, x.to, x.cls, x.acc] 4 4 _ (HW3.out.alloc _) (Rd.new w3 [iV x.frm, iV x.to, iV x.cls, iV x.acc] _) rfl (by simp) (by simpa [I64] using HX.out.2) (fun a ha => by cases ha; exact HW3.out.ap_new _)).mono ?_
      rintro e w4 ⟨rfl, v4, hk4, hw4⟩
      have HK4 := Lib.hid (HK3.out.trans ((Wk.alloc p _ _ _).trans hk4)); clear hk4
      have HW4 := Lib.hid hw4; clear hw4
      go_wp2
      go_roundg 0
      case measure => omega
      case rel => exact .inr ⟨rfl, by go_num, v4, HK4.out, HW4.out⟩
    · have HK := Lib.hid hk; clear hk
      have HWW := Lib.hid hw; clear hw
      go_wp2
      go_end0
      exact ⟨rfl, v', HK.out, HWW.out⟩
end Go.Proofs.Ytoaembpakmpolaa
