/-
  The walks over the writer of package journal: records, papers. (Written by a program: wip/jou/gen_wr.py.)
-/
import Derived.Test.YtoaembpakmpolaaJouWr2
namespace Go.Proofs.Ytoaembpakmpolaa
open Go.RowKit Jou
attribute [local go_sem] ba_get ba_extract ba_append

def recCells (r : Rec) (A : Option Addr) (c : Nat) : Array Value := #[iV r.scanner, iV r.number, iV r.kind, iV r.time, sV r.label, .slice A r.contents.length c]
def Rec.Ok (r : Rec) : Prop := (∀ n ∈ [r.scanner, r.number, r.kind, r.time], I64 n) ∧ (∀ s ∈ [r.label], s.length ≤ maxLen) ∧ r.contents.length ≤ 9223372036854775806 ∧ (∀ s ∈ r.contents, s.length ≤ maxLen)
set_option maxHeartbeats 2000000 in
set_option maxRecDepth 100000 in
theorem records_any (p : Nat) (v : Value) (st : Option (List UInt8)) (q : Nat) (r : Rec) (A : Option Addr) (c : Nat) (t : TypeId) (fr : Nat × Nat) (w : World) (hW : Wr w p v st) (hq : w.heap[q]? = some (.cells (recCells r A c) t fr)) (hx : Rec.Ok r) (hA : Ap p v w q)
    (hC : Rd w A (r.contents.map sV)) (hAC : ∀ a, A = some a → Ap p v w a.block) :
    Calls Try.prog 46 #[.pointer (some ⟨p, 0, none⟩), .slice (some ⟨q, 0, none⟩) 1 1] w fun e w' =>
      e = .returned (.tuple #[]) ∧ ∃ v', Wk p w w' v v' ∧ Wr w' p v' (recW st r) := by
  have HA := Lib.hid hA; clear hA
  have HW := Lib.hid hW; clear hW
  have HX := Lib.hid hx; clear hx
  have HC := Lib.hid hC; clear hC
  have HAC := Lib.hid hAC; clear hAC
  have c0 : w.cell? ⟨q, 0, none⟩ = some (iV r.scanner) := cell_of_row w q 0 _ t fr hq
  have c1 : w.cell? ⟨q, 1, none⟩ = some (iV r.number) := cell_of_row w q 1 _ t fr hq
  have c2 : w.cell? ⟨q, 2, none⟩ = some (iV r.kind) := cell_of_row w q 2 _ t fr hq
  have c3 : w.cell? ⟨q, 3, none⟩ = some (iV r.time) := cell_of_row w q 3 _ t fr hq
  have c4 : w.cell? ⟨q, 4, none⟩ = some (sV r.label) := cell_of_row w q 4 _ t fr hq
  have c5 : w.cell? ⟨q, 5, none⟩ = some (.slice A r.contents.length c) := cell_of_row w q 5 _ t fr hq
  clear hq
  go_enter Try.func46, Try.ntmps46
  go_wp2
  go_loopg [8] 1 (fun g i wr => (g = 1 ∧ i = iV 0 ∧ wr = w) ∨ (g = 0 ∧ i = iV 1 ∧ ∃ v', Wk p w wr v v' ∧ Wr wr p v' (recW st r)))
  case atStart => exact .inl ⟨rfl, rfl, rfl⟩
  case round =>
    rcases hrel with ⟨rfl, rfl, rfl⟩ | ⟨rfl, rfl, v', hk, hw⟩
    · have HX' := HX.out
      unfold Rec.Ok at HX'
      have HXX := Lib.hid HX'; clear HX'
      go_wp2_with fail
      have hw0 : Hid (Wr (wr.alloc (Obj.cells (recCells r A c) 26)) p v st) := HW.out.alloc _
      have hk0 : Hid (Wk p wr (wr.alloc (Obj.cells (recCells r A c) 26)) v v) := Wk.alloc p _ _ _
      have ha0 : Hid (Ap p v (wr.alloc (Obj.cells (recCells r A c) 26)) wr.heap.size) := HW.out.ap_new _
      have hB0 : Hid ((wr.alloc (Obj.cells (recCells r A c) 26)).heap[wr.heap.size]? = some (Obj.cells (recCells r A c) 26 (0, 0))) := heap_alloc_new _ _
      have hr0 : Hid (Rd (wr.alloc (Obj.cells (recCells r A c) 26)) A (r.contents.map sV)) := hk0.out.rd HC.out HAC.out
      have hs0 : Hid (∀ a, A = some a → Ap p v (wr.alloc (Obj.cells (recCells r A c) 26)) a.block) := fun a ha => (HAC.out a ha).alloc _
      refine (numbers_any p v _ _ [r.scanner, r.number, r.kind, r.time] 4 4 _ (hw0.out.alloc _) (by simpa using Rd.new (wr.alloc (Obj.cells (recCells r A c) 26)) [iV r.scanner, iV r.number, iV r.kind, iV r.time] _) rfl (by simp) (HXX.out.1) (fun a ha => by cases ha; simpa using hw0.out.ap_new _)).mono ?_
      rintro e w1 ⟨rfl, v1, hk', hw'⟩
      have hw1 := Lib.hid hw'; clear hw'
      have ha1 := Lib.hid (hk'.ap (ha0.out.alloc _))
      have hk1 := Lib.hid (hk0.out.trans ((Wk.alloc p _ _ _).trans hk'))
      have hB1 := Lib.hid ((hk'.heap (ha0.out.alloc _)).trans ((Below.heap_alloc _ _ _ ha0.out.1).trans hB0.out))
      have hr1 := Lib.hid (hk'.rd ((Wk.alloc p _ _ _).rd hr0.out hs0.out) (fun a ha => (hs0.out a ha).alloc _))
      have hs1 : Hid (∀ a, A = some a → Ap p v1 w1 a.block) := fun a ha => hk'.ap ((hs0.out a ha).alloc _)
      clear hk' hw0 ha0 hk0 hB0 hr0 hs0
      clear c0 c1 c2 c3 c4 c5
      have c0 : w1.cell? ⟨wr.heap.size, 0, none⟩ = some (iV r.scanner) := cell_of_row w1 _ 0 _ _ _ hB1.out
      have c1 : w1.cell? ⟨wr.heap.size, 1, none⟩ = some (iV r.number) := cell_of_row w1 _ 1 _ _ _ hB1.out
      have c2 : w1.cell? ⟨wr.heap.size, 2, none⟩ = some (iV r.kind) := cell_of_row w1 _ 2 _ _ _ hB1.out
      have c3 : w1.cell? ⟨wr.heap.size, 3, none⟩ = some (iV r.time) := cell_of_row w1 _ 3 _ _ _ hB1.out
      have c4 : w1.cell? ⟨wr.heap.size, 4, none⟩ = some (sV r.label) := cell_of_row w1 _ 4 _ _ _ hB1.out
      have c5 : w1.cell? ⟨wr.heap.size, 5, none⟩ = some (.slice A r.contents.length c) := cell_of_row w1 _ 5 _ _ _ hB1.out
      go_wp2_with fail
      clear c0 c1 c2 c3 c4 c5
      refine (texts_any p v1 _ _ [r.label] 1 1 _ (hw1.out.alloc _) (by simpa using Rd.new w1 [sV r.label] _) rfl (by simp) (HXX.out.2.1) (fun a ha => by cases ha; simpa using hw1.out.ap_new _)).mono ?_
      rintro e w2 ⟨rfl, v2, hk', hw'⟩
      have hw2 := Lib.hid hw'; clear hw'
      have ha2 := Lib.hid (hk'.ap (ha1.out.alloc _))
      have hk2 := Lib.hid (hk1.out.trans ((Wk.alloc p _ _ _).trans hk'))
      have hB2 := Lib.hid ((hk'.heap (ha1.out.alloc _)).trans ((Below.heap_alloc _ _ _ ha1.out.1).trans hB1.out))
      have hr2 := Lib.hid (hk'.rd ((Wk.alloc p _ _ _).rd hr1.out hs1.out) (fun a ha => (hs1.out a ha).alloc _))
      have hs2 : Hid (∀ a, A = some a → Ap p v2 w2 a.block) := fun a ha => hk'.ap ((hs1.out a ha).alloc _)
      clear hk' hw1 ha1 hk1 hB1 hr1 hs1
      have c0 : w2.cell? ⟨wr.heap.size, 0, none⟩ = some (iV r.scanner) := cell_of_row w2 _ 0 _ _ _ hB2.out
      have c1 : w2.cell? ⟨wr.heap.size, 1, none⟩ = some (iV r.number) := cell_of_row w2 _ 1 _ _ _ hB2.out
      have c2 : w2.cell? ⟨wr.heap.size, 2, none⟩ = some (iV r.kind) := cell_of_row w2 _ 2 _ _ _ hB2.out
      have c3 : w2.cell? ⟨wr.heap.size, 3, none⟩ = some (iV r.time) := cell_of_row w2 _ 3 _ _ _ hB2.out
      have c4 : w2.cell? ⟨wr.heap.size, 4, none⟩ = some (sV r.label) := cell_of_row w2 _ 4 _ _ _ hB2.out
      have c5 : w2.cell? ⟨wr.heap.size, 5, none⟩ = some (.slice A r.contents.length c) := cell_of_row w2 _ 5 _ _ _ hB2.out
      go_wp2_with fail
      clear c0 c1 c2 c3 c4 c5
      refine (length_any p v2 _ r.contents.length _ hw2.out (by have := HXX.out.2.2.1; unfold maxLen; omega)).mono ?_
      rintro e w3 ⟨rfl, v3, hk', hw'⟩
      have ha3 := Lib.hid (hk'.ap ha2.out)
      have hk3 := Lib.hid (hk2.out.trans hk')
      have hB3 := Lib.hid ((hk'.heap ha2.out).trans hB2.out)
      have hr3 := Lib.hid (hk'.rd hr2.out hs2.out)
      have hs3 : Hid (∀ a, A = some a → Ap p v3 w3 a.block) := fun a ha => hk'.ap (hs2.out a ha)
      clear hk' hw2 ha2 hk2 hB2 hr2 hs2
      obtain ⟨st', hst'⟩ : ∃ st', st' = lenW (txtW (numsW st [r.scanner, r.number, r.kind, r.time]) r.label) r.contents.length := ⟨_, rfl⟩
      have hm : Hid (recW st r = txtsW st' r.contents) := by rw [hst']; rfl
      replace hw' : Wr w3 p v3 st' := by rw [hst']; exact hw'
      clear hst'
      have hw3 := Lib.hid hw'; clear hw'
      have hfull := hw3.out.full
      cases st' with
      | none =>
        simp only [Option.isNone_none] at hfull
        go_wp2
        go_roundg 0
        case measure => omega
        case rel => exact .inr ⟨rfl, by go_num, v3, hk3.out, by rw [hm.out, txtsW_none]; exact hw3.out⟩
      | some l =>
        simp only [Option.isNone_some] at hfull
        have c5 : w3.cell? ⟨wr.heap.size, 5, none⟩ = some (.slice A r.contents.length c) := cell_of_row w3 _ 5 _ _ _ hB3.out
        go_wp2_with fail
        refine (texts_any p v3 _ A r.contents _ c _ hw3.out hr3.out rfl HXX.out.2.2.1 HXX.out.2.2.2 hs3.out).mono ?_
        rintro e w4 ⟨rfl, v4, hk', hw'⟩
        have hk4 := Lib.hid (hk3.out.trans hk'); clear hk'
        have hw4 := Lib.hid hw'; clear hw'
        clear c5 hfull
        go_wp2
        go_roundg 0
        case measure => omega
        case rel => exact .inr ⟨rfl, by go_num, v4, hk4.out, by rw [hm.out]; exact hw4.out⟩
    · have HK := Lib.hid hk; clear hk
      have HWW := Lib.hid hw; clear hw
      go_wp2
      go_end0
      exact ⟨rfl, v', HK.out, HWW.out⟩
def paperCells (r : Paper) (A : Option Addr) (c : Nat) : Array Value := #[sV r.sl, iV r.frm, iV r.to, iV r.time, iV r.count, iV r.root, iV r.give, iV r.take, sV r.label, iV r.index, .slice A r.path.length c]
def Paper.Ok (r : Paper) : Prop := (∀ s ∈ [r.sl], s.length ≤ maxLen) ∧ (∀ n ∈ [r.frm, r.to, r.time, r.count, r.root, r.give, r.take], I64 n) ∧ (∀ s ∈ [r.label], s.length ≤ maxLen) ∧ (∀ n ∈ [r.index], I64 n) ∧ r.path.length ≤ 100000 ∧ (∀ n ∈ r.path, I64 n)
set_option maxHeartbeats 2000000 in
set_option maxRecDepth 100000 in
theorem papers_any (p : Nat) (v : Value) (st : Option (List UInt8)) (q : Nat) (r : Paper) (A : Option Addr) (c : Nat) (t : TypeId) (fr : Nat × Nat) (w : World) (hW : Wr w p v st) (hq : w.heap[q]? = some (.cells (paperCells r A c) t fr)) (hx : Paper.Ok r) (hA : Ap p v w q)
    (hC : Rd w A (r.path.map iV)) (hAC : ∀ a, A = some a → Ap p v w a.block) :
    Calls Try.prog 47 #[.pointer (some ⟨p, 0, none⟩), .slice (some ⟨q, 0, none⟩) 1 1] w fun e w' =>
      e = .returned (.tuple #[]) ∧ ∃ v', Wk p w w' v v' ∧ Wr w' p v' (paperW st r) := by
  have HA := Lib.hid hA; clear hA
  have HW := Lib.hid hW; clear hW
  have HX := Lib.hid hx; clear hx
  have HC := Lib.hid hC; clear hC
  have HAC := Lib.hid hAC; clear hAC
  have c0 : w.cell? ⟨q, 0, none⟩ = some (sV r.sl) := cell_of_row w q 0 _ t fr hq
  have c1 : w.cell? ⟨q, 1, none⟩ = some (iV r.frm) := cell_of_row w q 1 _ t fr hq
  have c2 : w.cell? ⟨q, 2, none⟩ = some (iV r.to) := cell_of_row w q 2 _ t fr hq
  have c3 : w.cell? ⟨q, 3, none⟩ = some (iV r.time) := cell_of_row w q 3 _ t fr hq
  have c4 : w.cell? ⟨q, 4, none⟩ = some (iV r.count) := cell_of_row w q 4 _ t fr hq
  have c5 : w.cell? ⟨q, 5, none⟩ = some (iV r.root) := cell_of_row w q 5 _ t fr hq
  have c6 : w.cell? ⟨q, 6, none⟩ = some (iV r.give) := cell_of_row w q 6 _ t fr hq
  have c7 : w.cell? ⟨q, 7, none⟩ = some (iV r.take) := cell_of_row w q 7 _ t fr hq
  have c8 : w.cell? ⟨q, 8, none⟩ = some (sV r.label) := cell_of_row w q 8 _ t fr hq
  have c9 : w.cell? ⟨q, 9, none⟩ = some (iV r.index) := cell_of_row w q 9 _ t fr hq
  have c10 : w.cell? ⟨q, 10, none⟩ = some (.slice A r.path.length c) := cell_of_row w q 10 _ t fr hq
  clear hq
  go_enter Try.func47, Try.ntmps47
  go_wp2
  go_loopg [8] 1 (fun g i wr => (g = 1 ∧ i = iV 0 ∧ wr = w) ∨ (g = 0 ∧ i = iV 1 ∧ ∃ v', Wk p w wr v v' ∧ Wr wr p v' (paperW st r)))
  case atStart => exact .inl ⟨rfl, rfl, rfl⟩
  case round =>
    rcases hrel with ⟨rfl, rfl, rfl⟩ | ⟨rfl, rfl, v', hk, hw⟩
    · have HX' := HX.out
      unfold Paper.Ok at HX'
      have HXX := Lib.hid HX'; clear HX'
      go_wp2_with fail
      have hw0 : Hid (Wr (wr.alloc (Obj.cells (paperCells r A c) 33)) p v st) := HW.out.alloc _
      have hk0 : Hid (Wk p wr (wr.alloc (Obj.cells (paperCells r A c) 33)) v v) := Wk.alloc p _ _ _
      have ha0 : Hid (Ap p v (wr.alloc (Obj.cells (paperCells r A c) 33)) wr.heap.size) := HW.out.ap_new _
      have hB0 : Hid ((wr.alloc (Obj.cells (paperCells r A c) 33)).heap[wr.heap.size]? = some (Obj.cells (paperCells r A c) 33 (0, 0))) := heap_alloc_new _ _
      have hr0 : Hid (Rd (wr.alloc (Obj.cells (paperCells r A c) 33)) A (r.path.map iV)) := hk0.out.rd HC.out HAC.out
      have hs0 : Hid (∀ a, A = some a → Ap p v (wr.alloc (Obj.cells (paperCells r A c) 33)) a.block) := fun a ha => (HAC.out a ha).alloc _
      refine (texts_any p v _ _ [r.sl] 1 1 _ (hw0.out.alloc _) (by simpa using Rd.new (wr.alloc (Obj.cells (paperCells r A c) 33)) [sV r.sl] _) rfl (by simp) (HXX.out.1) (fun a ha => by cases ha; simpa using hw0.out.ap_new _)).mono ?_
      rintro e w1 ⟨rfl, v1, hk', hw'⟩
      have hw1 := Lib.hid hw'; clear hw'
      have ha1 := Lib.hid (hk'.ap (ha0.out.alloc _))
      have hk1 := Lib.hid (hk0.out.trans ((Wk.alloc p _ _ _).trans hk'))
      have hB1 := Lib.hid ((hk'.heap (ha0.out.alloc _)).trans ((Below.heap_alloc _ _ _ ha0.out.1).trans hB0.out))
      have hr1 := Lib.hid (hk'.rd ((Wk.alloc p _ _ _).rd hr0.out hs0.out) (fun a ha => (hs0.out a ha).alloc _))
      have hs1 : Hid (∀ a, A = some a → Ap p v1 w1 a.block) := fun a ha => hk'.ap ((hs0.out a ha).alloc _)
      clear hk' hw0 ha0 hk0 hB0 hr0 hs0
      clear c0 c1 c2 c3 c4 c5 c6 c7 c8 c9 c10
      have c0 : w1.cell? ⟨wr.heap.size, 0, none⟩ = some (sV r.sl) := cell_of_row w1 _ 0 _ _ _ hB1.out
      have c1 : w1.cell? ⟨wr.heap.size, 1, none⟩ = some (iV r.frm) := cell_of_row w1 _ 1 _ _ _ hB1.out
      have c2 : w1.cell? ⟨wr.heap.size, 2, none⟩ = some (iV r.to) := cell_of_row w1 _ 2 _ _ _ hB1.out
      have c3 : w1.cell? ⟨wr.heap.size, 3, none⟩ = some (iV r.time) := cell_of_row w1 _ 3 _ _ _ hB1.out
      have c4 : w1.cell? ⟨wr.heap.size, 4, none⟩ = some (iV r.count) := cell_of_row w1 _ 4 _ _ _ hB1.out
      have c5 : w1.cell? ⟨wr.heap.size, 5, none⟩ = some (iV r.root) := cell_of_row w1 _ 5 _ _ _ hB1.out
      have c6 : w1.cell? ⟨wr.heap.size, 6, none⟩ = some (iV r.give) := cell_of_row w1 _ 6 _ _ _ hB1.out
      have c7 : w1.cell? ⟨wr.heap.size, 7, none⟩ = some (iV r.take) := cell_of_row w1 _ 7 _ _ _ hB1.out
      have c8 : w1.cell? ⟨wr.heap.size, 8, none⟩ = some (sV r.label) := cell_of_row w1 _ 8 _ _ _ hB1.out
      have c9 : w1.cell? ⟨wr.heap.size, 9, none⟩ = some (iV r.index) := cell_of_row w1 _ 9 _ _ _ hB1.out
      have c10 : w1.cell? ⟨wr.heap.size, 10, none⟩ = some (.slice A r.path.length c) := cell_of_row w1 _ 10 _ _ _ hB1.out
      go_wp2_with fail
      clear c0 c1 c2 c3 c4 c5 c6 c7 c8 c9 c10
      refine (numbers_any p v1 _ _ [r.frm, r.to, r.time, r.count, r.root, r.give, r.take] 7 7 _ (hw1.out.alloc _) (by simpa using Rd.new w1 [iV r.frm, iV r.to, iV r.time, iV r.count, iV r.root, iV r.give, iV r.take] _) rfl (by simp) (HXX.out.2.1) (fun a ha => by cases ha; simpa using hw1.out.ap_new _)).mono ?_
      rintro e w2 ⟨rfl, v2, hk', hw'⟩
      have hw2 := Lib.hid hw'; clear hw'
      have ha2 := Lib.hid (hk'.ap (ha1.out.alloc _))
      have hk2 := Lib.hid (hk1.out.trans ((Wk.alloc p _ _ _).trans hk'))
      have hB2 := Lib.hid ((hk'.heap (ha1.out.alloc _)).trans ((Below.heap_alloc _ _ _ ha1.out.1).trans hB1.out))
      have hr2 := Lib.hid (hk'.rd ((Wk.alloc p _ _ _).rd hr1.out hs1.out) (fun a ha => (hs1.out a ha).alloc _))
      have hs2 : Hid (∀ a, A = some a → Ap p v2 w2 a.block) := fun a ha => hk'.ap ((hs1.out a ha).alloc _)
      clear hk' hw1 ha1 hk1 hB1 hr1 hs1
      have c0 : w2.cell? ⟨wr.heap.size, 0, none⟩ = some (sV r.sl) := cell_of_row w2 _ 0 _ _ _ hB2.out
      have c1 : w2.cell? ⟨wr.heap.size, 1, none⟩ = some (iV r.frm) := cell_of_row w2 _ 1 _ _ _ hB2.out
      have c2 : w2.cell? ⟨wr.heap.size, 2, none⟩ = some (iV r.to) := cell_of_row w2 _ 2 _ _ _ hB2.out
      have c3 : w2.cell? ⟨wr.heap.size, 3, none⟩ = some (iV r.time) := cell_of_row w2 _ 3 _ _ _ hB2.out
      have c4 : w2.cell? ⟨wr.heap.size, 4, none⟩ = some (iV r.count) := cell_of_row w2 _ 4 _ _ _ hB2.out
      have c5 : w2.cell? ⟨wr.heap.size, 5, none⟩ = some (iV r.root) := cell_of_row w2 _ 5 _ _ _ hB2.out
      have c6 : w2.cell? ⟨wr.heap.size, 6, none⟩ = some (iV r.give) := cell_of_row w2 _ 6 _ _ _ hB2.out
      have c7 : w2.cell? ⟨wr.heap.size, 7, none⟩ = some (iV r.take) := cell_of_row w2 _ 7 _ _ _ hB2.out
      have c8 : w2.cell? ⟨wr.heap.size, 8, none⟩ = some (sV r.label) := cell_of_row w2 _ 8 _ _ _ hB2.out
      have c9 : w2.cell? ⟨wr.heap.size, 9, none⟩ = some (iV r.index) := cell_of_row w2 _ 9 _ _ _ hB2.out
      have c10 : w2.cell? ⟨wr.heap.size, 10, none⟩ = some (.slice A r.path.length c) := cell_of_row w2 _ 10 _ _ _ hB2.out
      go_wp2_with fail
      clear c0 c1 c2 c3 c4 c5 c6 c7 c8 c9 c10
      refine (texts_any p v2 _ _ [r.label] 1 1 _ (hw2.out.alloc _) (by simpa using Rd.new w2 [sV r.label] _) rfl (by simp) (HXX.out.2.2.1) (fun a ha => by cases ha; simpa using hw2.out.ap_new _)).mono ?_
      rintro e w3 ⟨rfl, v3, hk', hw'⟩
      have hw3 := Lib.hid hw'; clear hw'
      have ha3 := Lib.hid (hk'.ap (ha2.out.alloc _))
      have hk3 := Lib.hid (hk2.out.trans ((Wk.alloc p _ _ _).trans hk'))
      have hB3 := Lib.hid ((hk'.heap (ha2.out.alloc _)).trans ((Below.heap_alloc _ _ _ ha2.out.1).trans hB2.out))
      have hr3 := Lib.hid (hk'.rd ((Wk.alloc p _ _ _).rd hr2.out hs2.out) (fun a ha => (hs2.out a ha).alloc _))
      have hs3 : Hid (∀ a, A = some a → Ap p v3 w3 a.block) := fun a ha => hk'.ap ((hs2.out a ha).alloc _)
      clear hk' hw2 ha2 hk2 hB2 hr2 hs2
      have c0 : w3.cell? ⟨wr.heap.size, 0, none⟩ = some (sV r.sl) := cell_of_row w3 _ 0 _ _ _ hB3.out
      have c1 : w3.cell? ⟨wr.heap.size, 1, none⟩ = some (iV r.frm) := cell_of_row w3 _ 1 _ _ _ hB3.out
      have c2 : w3.cell? ⟨wr.heap.size, 2, none⟩ = some (iV r.to) := cell_of_row w3 _ 2 _ _ _ hB3.out
      have c3 : w3.cell? ⟨wr.heap.size, 3, none⟩ = some (iV r.time) := cell_of_row w3 _ 3 _ _ _ hB3.out
      have c4 : w3.cell? ⟨wr.heap.size, 4, none⟩ = some (iV r.count) := cell_of_row w3 _ 4 _ _ _ hB3.out
      have c5 : w3.cell? ⟨wr.heap.size, 5, none⟩ = some (iV r.root) := cell_of_row w3 _ 5 _ _ _ hB3.out
      have c6 : w3.cell? ⟨wr.heap.size, 6, none⟩ = some (iV r.give) := cell_of_row w3 _ 6 _ _ _ hB3.out
      have c7 : w3.cell? ⟨wr.heap.size, 7, none⟩ = some (iV r.take) := cell_of_row w3 _ 7 _ _ _ hB3.out
      have c8 : w3.cell? ⟨wr.heap.size, 8, none⟩ = some (sV r.label) := cell_of_row w3 _ 8 _ _ _ hB3.out
      have c9 : w3.cell? ⟨wr.heap.size, 9, none⟩ = some (iV r.index) := cell_of_row w3 _ 9 _ _ _ hB3.out
      have c10 : w3.cell? ⟨wr.heap.size, 10, none⟩ = some (.slice A r.path.length c) := cell_of_row w3 _ 10 _ _ _ hB3.out
      go_wp2_with fail
      clear c0 c1 c2 c3 c4 c5 c6 c7 c8 c9 c10
      refine (numbers_any p v3 _ _ [r.index] 1 1 _ (hw3.out.alloc _) (by simpa using Rd.new w3 [iV r.index] _) rfl (by simp) (HXX.out.2.2.2.1) (fun a ha => by cases ha; simpa using hw3.out.ap_new _)).mono ?_
      rintro e w4 ⟨rfl, v4, hk', hw'⟩
      have hw4 := Lib.hid hw'; clear hw'
      have ha4 := Lib.hid (hk'.ap (ha3.out.alloc _))
      have hk4 := Lib.hid (hk3.out.trans ((Wk.alloc p _ _ _).trans hk'))
      have hB4 := Lib.hid ((hk'.heap (ha3.out.alloc _)).trans ((Below.heap_alloc _ _ _ ha3.out.1).trans hB3.out))
      have hr4 := Lib.hid (hk'.rd ((Wk.alloc p _ _ _).rd hr3.out hs3.out) (fun a ha => (hs3.out a ha).alloc _))
      have hs4 : Hid (∀ a, A = some a → Ap p v4 w4 a.block) := fun a ha => hk'.ap ((hs3.out a ha).alloc _)
      clear hk' hw3 ha3 hk3 hB3 hr3 hs3
      have c0 : w4.cell? ⟨wr.heap.size, 0, none⟩ = some (sV r.sl) := cell_of_row w4 _ 0 _ _ _ hB4.out
      have c1 : w4.cell? ⟨wr.heap.size, 1, none⟩ = some (iV r.frm) := cell_of_row w4 _ 1 _ _ _ hB4.out
      have c2 : w4.cell? ⟨wr.heap.size, 2, none⟩ = some (iV r.to) := cell_of_row w4 _ 2 _ _ _ hB4.out
      have c3 : w4.cell? ⟨wr.heap.size, 3, none⟩ = some (iV r.time) := cell_of_row w4 _ 3 _ _ _ hB4.out
      have c4 : w4.cell? ⟨wr.heap.size, 4, none⟩ = some (iV r.count) := cell_of_row w4 _ 4 _ _ _ hB4.out
      have c5 : w4.cell? ⟨wr.heap.size, 5, none⟩ = some (iV r.root) := cell_of_row w4 _ 5 _ _ _ hB4.out
      have c6 : w4.cell? ⟨wr.heap.size, 6, none⟩ = some (iV r.give) := cell_of_row w4 _ 6 _ _ _ hB4.out
      have c7 : w4.cell? ⟨wr.heap.size, 7, none⟩ = some (iV r.take) := cell_of_row w4 _ 7 _ _ _ hB4.out
      have c8 : w4.cell? ⟨wr.heap.size, 8, none⟩ = some (sV r.label) := cell_of_row w4 _ 8 _ _ _ hB4.out
      have c9 : w4.cell? ⟨wr.heap.size, 9, none⟩ = some (iV r.index) := cell_of_row w4 _ 9 _ _ _ hB4.out
      have c10 : w4.cell? ⟨wr.heap.size, 10, none⟩ = some (.slice A r.path.length c) := cell_of_row w4 _ 10 _ _ _ hB4.out
      go_wp2_with fail
      clear c0 c1 c2 c3 c4 c5 c6 c7 c8 c9 c10
      refine (length_any p v4 _ r.path.length _ hw4.out (by have := HXX.out.2.2.2.2.1; unfold maxLen; omega)).mono ?_
      rintro e w5 ⟨rfl, v5, hk', hw'⟩
      have ha5 := Lib.hid (hk'.ap ha4.out)
      have hk5 := Lib.hid (hk4.out.trans hk')
      have hB5 := Lib.hid ((hk'.heap ha4.out).trans hB4.out)
      have hr5 := Lib.hid (hk'.rd hr4.out hs4.out)
      have hs5 : Hid (∀ a, A = some a → Ap p v5 w5 a.block) := fun a ha => hk'.ap (hs4.out a ha)
      clear hk' hw4 ha4 hk4 hB4 hr4 hs4
      obtain ⟨st', hst'⟩ : ∃ st', st' = lenW (numsW (txtW (numsW (txtW st r.sl) [r.frm, r.to, r.time, r.count, r.root, r.give, r.take]) r.label) [r.index]) r.path.length := ⟨_, rfl⟩
      have hm : Hid (paperW st r = numsW st' r.path) := by rw [hst']; rfl
      replace hw' : Wr w5 p v5 st' := by rw [hst']; exact hw'
      clear hst'
      have hw5 := Lib.hid hw'; clear hw'
      have hfull := hw5.out.full
      cases st' with
      | none =>
        simp only [Option.isNone_none] at hfull
        go_wp2
        go_roundg 0
        case measure => omega
        case rel => exact .inr ⟨rfl, by go_num, v5, hk5.out, by rw [hm.out, numsW_none]; exact hw5.out⟩
      | some l =>
        simp only [Option.isNone_some] at hfull
        have c10 : w5.cell? ⟨wr.heap.size, 10, none⟩ = some (.slice A r.path.length c) := cell_of_row w5 _ 10 _ _ _ hB5.out
        go_wp2_with fail
        refine (numbers_any p v5 _ A r.path _ c _ hw5.out hr5.out rfl HXX.out.2.2.2.2.1 HXX.out.2.2.2.2.2 hs5.out).mono ?_
        rintro e w6 ⟨rfl, v6, hk', hw'⟩
        have hk6 := Lib.hid (hk5.out.trans hk'); clear hk'
        have hw6 := Lib.hid hw'; clear hw'
        clear c10 hfull
        go_wp2
        go_roundg 0
        case measure => omega
        case rel => exact .inr ⟨rfl, by go_num, v6, hk6.out, by rw [hm.out]; exact hw6.out⟩
    · have HK := Lib.hid hk; clear hk
      have HWW := Lib.hid hw; clear hw
      go_wp2
      go_end0
      exact ⟨rfl, v', HK.out, HWW.out⟩
end Go.Proofs.Ytoaembpakmpolaa
