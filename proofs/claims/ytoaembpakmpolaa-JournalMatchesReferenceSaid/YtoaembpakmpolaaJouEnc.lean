/-
  The walk over journal.Encode. (Written by a program: wip/jou/gen_enc.py.)
-/
import Derived.Test.YtoaembpakmpolaaJouWr3
namespace Go.Proofs.Ytoaembpakmpolaa
open Go.RowKit Jou
attribute [local go_sem] ba_get ba_extract ba_append

def logCells (e : Log) (AC : Option Addr) (cc : Nat) (AP : Option Addr) (cp : Nat) : Array Value := #[iV e.kind, iV e.n, sV e.text, sV e.post.label, iV e.post.frm, iV e.post.to, iV e.post.cls, iV e.post.acc, iV e.rcd.scanner, iV e.rcd.number, iV e.rcd.kind, iV e.rcd.time, sV e.rcd.label, .slice AC e.rcd.contents.length cc, sV e.paper.sl, iV e.paper.frm, iV e.paper.to, iV e.paper.time, iV e.paper.count, iV e.paper.root, iV e.paper.give, iV e.paper.take, sV e.paper.label, iV e.paper.index, .slice AP e.paper.path.length cp, sV e.cpost.label, iV e.cpost.frm, iV e.cpost.to, iV e.cpost.cls, iV e.cpost.acc, iV e.due, iV e.amount]
structure Log.Ok (e : Log) : Prop where
  kind : I64 e.kind
  n : ∀ n ∈ [e.n], I64 n
  text : ∀ s ∈ [e.text], s.length ≤ maxLen
  post : Post.Ok e.post
  rcd : Rec.Ok e.rcd
  paper : Paper.Ok e.paper
  cpost : Post.Ok e.cpost
  last : ∀ n ∈ [e.due, e.amount], I64 n
theorem kind_byte (k : Int) (h1 : 1 ≤ k) (h2 : k ≤ 8) : k % 256 = ((UInt8.ofNat k.toNat).toNat : Int) := by
  obtain ⟨m, rfl⟩ := Int.eq_ofNat_of_zero_le (show 0 ≤ k by omega)
  rw [Int.toNat_natCast, UInt8.toNat_ofNat']
  omega
/-- Bytes that a call hands back: nil, or a row of its own. -/
def RowRes (base : Nat) (w' : World) (x : Ending) : Option (List UInt8) → Prop
  | none => x = .returned (.slice none 0 0)
  | some l => ∃ A c, x = .returned (.slice A l.length c) ∧ w'.ownsRow base 5 1 (.slice A l.length c) l.length (l.map bV)
set_option maxHeartbeats 4000000 in
set_option maxRecDepth 100000 in
theorem encode_any (e : Log) (AC : Option Addr) (cc : Nat) (AP : Option Addr) (cp : Nat) (w : World) (hok : Log.Ok e) (hC : Rd w AC (e.rcd.contents.map sV)) (hP : Rd w AP (e.paper.path.map iV)) (hCl : Low w.heap.size AC) (hPl : Low w.heap.size AP) :
    Calls Try.prog 19 #[.agg (logCells e AC cc AP cp)] w fun x w' => Below w.heap.size w w' ∧ RowRes w.heap.size w' x (encode e) := by
  have HOK := Lib.hid hok; clear hok
  have HC := Lib.hid hC; clear hC
  have HP := Lib.hid hP; clear hP
  have HCL := Lib.hid hCl; clear hCl
  have HPL := Lib.hid hPl; clear hPl
  unfold logCells
  by_cases hkind : e.kind < 1 ∨ 8 < e.kind
  · have henc : Hid (encode e = none) := by unfold encode; rw [if_pos hkind]; exact rfl
    go_enter Try.func19, Try.ntmps19
    rcases hkind with hk | hk
    · go_wp2
      go_ret
      exact ⟨(Below.refl _ _).alloc (Nat.le_refl _) _, by rw [henc.out]; rfl⟩
    · have hk1 : ¬ e.kind < 1 := by omega
      go_wp2
      go_ret
      exact ⟨(Below.refl _ _).alloc (Nat.le_refl _) _, by rw [henc.out]; rfl⟩
  · have hk1 : ¬ e.kind < 1 := fun h => hkind (.inl h)
    have hk2 : ¬ 8 < e.kind := fun h => hkind (.inr h)
    have henc : Hid (encode e = logW e) := by unfold encode; rw [if_neg hkind]; exact rfl
    clear hkind
    have hkb' := kind_byte e.kind (by omega) (by omega)
    rw [Int.emod_eq_of_lt (by omega) (by omega)] at hkb'
    have hkb := Lib.hid hkb'; clear hkb'
    go_enter Try.func19, Try.ntmps19
    go_wp2_with fail
    have hw0 : Hid (Wr ((w.alloc (Obj.cells (logCells e AC cc AP cp) 37)).alloc (Obj.cells #[.slice none 0 0, .bool false] 87)) (w.heap.size + 1) (.slice none 0 0) (some [])) := by
      have hh := heap_alloc_new (w.alloc (Obj.cells (logCells e AC cc AP cp) 37)) (Obj.cells #[.slice none 0 0, .bool false] 87)
      rw [World.size_alloc] at hh
      refine ⟨cell_of_row _ _ 0 _ _ _ hh, cell_of_row _ _ 1 _ _ _ hh, ?_, ?_, fun g hg => by simp [Value.ownBlock] at hg, ⟨_, _, _, rfl⟩, fun l hl => ?_⟩
      · exact frozen_row hh 0
      · exact frozen_row hh 1
      · cases hl; exact ⟨by simp, World.ownsRow_nil _ _ _ _⟩
    have ha0 : Hid (Ap (w.heap.size + 1) (.slice none 0 0) ((w.alloc (Obj.cells (logCells e AC cc AP cp) 37)).alloc (Obj.cells #[.slice none 0 0, .bool false] 87)) w.heap.size) := ⟨by simp; omega, by omega, by simp [Value.ownBlock]⟩
    have hB0 : Hid (((w.alloc (Obj.cells (logCells e AC cc AP cp) 37)).alloc (Obj.cells #[.slice none 0 0, .bool false] 87)).heap[w.heap.size]? = some (Obj.cells (logCells e AC cc AP cp) 37 (0, 0))) := (Below.heap_alloc _ _ _ (by simp)).trans (heap_alloc_new _ _)
    have hb0 : Hid (Below w.heap.size w ((w.alloc (Obj.cells (logCells e AC cc AP cp) 37)).alloc (Obj.cells #[.slice none 0 0, .bool false] 87))) := (((Below.refl _ w).alloc (Nat.le_refl _) _).alloc (by simp) _)
    have hr0 := Lib.hid (HC.out.below hb0.out)
    have hq0 := Lib.hid (HP.out.below hb0.out)
    have hs0 : Hid (∀ a, AC = some a → Ap (w.heap.size + 1) (.slice none 0 0) ((w.alloc (Obj.cells (logCells e AC cc AP cp) 37)).alloc (Obj.cells #[.slice none 0 0, .bool false] 87)) a.block) := fun a ha => by
      have := HCL.out a ha; exact ⟨by simp; omega, by omega, by simp [Value.ownBlock]⟩
    have hu0 : Hid (∀ a, AP = some a → Ap (w.heap.size + 1) (.slice none 0 0) ((w.alloc (Obj.cells (logCells e AC cc AP cp) 37)).alloc (Obj.cells #[.slice none 0 0, .bool false] 87)) a.block) := fun a ha => by
      have := HPL.out a ha; exact ⟨by simp; omega, by omega, by simp [Value.ownBlock]⟩
    refine (put_any (w.heap.size + 1) (.slice none 0 0) _ _ [UInt8.ofNat e.kind.toNat] 1 1 _ (hw0.out.alloc _) (show Rd _ _ [.int .u8 ((UInt8.ofNat e.kind.toNat).toNat : Int)] from by rw [← hkb.out]; simpa using Rd.new ((w.alloc (Obj.cells (logCells e AC cc AP cp) 37)).alloc (Obj.cells #[.slice none 0 0, .bool false] 87)) [.int .u8 e.kind] 5) rfl (by simp)).mono ?_
    rintro x w1 ⟨rfl, v1, hk', hw'⟩
    have hw1 := Lib.hid hw'; clear hw'
    have ha1 := Lib.hid (hk'.ap (ha0.out.alloc _))
    have hb1 : Hid (Below w.heap.size w w1) := hb0.out.trans (((Below.refl _ _).alloc (by have := hb0.out.size; omega) _).trans ((hk'.below (hw0.out.alloc _)).mono (by omega)))
    have hB1 := Lib.hid ((hk'.heap (ha0.out.alloc _)).trans ((Below.heap_alloc _ _ _ ha0.out.1).trans hB0.out))
    have hr1 := Lib.hid (hk'.rd ((Wk.alloc (w.heap.size + 1) _ (.slice none 0 0) _).rd hr0.out hs0.out) (fun a ha => (hs0.out a ha).alloc _))
    have hq1 := Lib.hid (hk'.rd ((Wk.alloc (w.heap.size + 1) _ (.slice none 0 0) _).rd hq0.out hu0.out) (fun a ha => (hu0.out a ha).alloc _))
    have hs1 : Hid (∀ a, AC = some a → Ap (w.heap.size + 1) v1 w1 a.block) := fun a ha => hk'.ap ((hs0.out a ha).alloc _)
    have hu1 : Hid (∀ a, AP = some a → Ap (w.heap.size + 1) v1 w1 a.block) := fun a ha => hk'.ap ((hu0.out a ha).alloc _)
    clear hk' hw0 ha0 hb0 hB0 hr0 hq0 hs0 hu0
    have c1 : w1.cell? ⟨w.heap.size, 1, none⟩ = some (iV e.n) := cell_of_row w1 _ 1 _ _ _ hB1.out
    go_wp2_with fail
    clear c1
    refine (numbers_any (w.heap.size + 1) v1 _ _ [e.n] 1 1 _ (hw1.out.alloc _) (by simpa using Rd.new w1 [iV e.n] _) rfl (by simp) HOK.out.n (fun a ha => by cases ha; simpa using hw1.out.ap_new _)).mono ?_
    rintro x w2 ⟨rfl, v2, hk', hw'⟩
    have hw2 := Lib.hid hw'; clear hw'
    have ha2 := Lib.hid (hk'.ap (ha1.out.alloc _))
    have hb2 : Hid (Below w.heap.size w w2) := hb1.out.trans (((Below.refl _ _).alloc (by have := hb1.out.size; omega) _).trans ((hk'.below (hw1.out.alloc _)).mono (by omega)))
    have hB2 := Lib.hid ((hk'.heap (ha1.out.alloc _)).trans ((Below.heap_alloc _ _ _ ha1.out.1).trans hB1.out))
    have hr2 := Lib.hid (hk'.rd ((Wk.alloc (w.heap.size + 1) _ v1 _).rd hr1.out hs1.out) (fun a ha => (hs1.out a ha).alloc _))
    have hq2 := Lib.hid (hk'.rd ((Wk.alloc (w.heap.size + 1) _ v1 _).rd hq1.out hu1.out) (fun a ha => (hu1.out a ha).alloc _))
    have hs2 : Hid (∀ a, AC = some a → Ap (w.heap.size + 1) v2 w2 a.block) := fun a ha => hk'.ap ((hs1.out a ha).alloc _)
    have hu2 : Hid (∀ a, AP = some a → Ap (w.heap.size + 1) v2 w2 a.block) := fun a ha => hk'.ap ((hu1.out a ha).alloc _)
    clear hk' hw1 ha1 hb1 hB1 hr1 hq1 hs1 hu1
    have c2 : w2.cell? ⟨w.heap.size, 2, none⟩ = some (sV e.text) := cell_of_row w2 _ 2 _ _ _ hB2.out
    go_wp2_with fail
    clear c2
    refine (texts_any (w.heap.size + 1) v2 _ _ [e.text] 1 1 _ (hw2.out.alloc _) (by simpa using Rd.new w2 [sV e.text] _) rfl (by simp) HOK.out.text (fun a ha => by cases ha; simpa using hw2.out.ap_new _)).mono ?_
    rintro x w3 ⟨rfl, v3, hk', hw'⟩
    have hw3 := Lib.hid hw'; clear hw'
    have ha3 := Lib.hid (hk'.ap (ha2.out.alloc _))
    have hb3 : Hid (Below w.heap.size w w3) := hb2.out.trans (((Below.refl _ _).alloc (by have := hb2.out.size; omega) _).trans ((hk'.below (hw2.out.alloc _)).mono (by omega)))
    have hB3 := Lib.hid ((hk'.heap (ha2.out.alloc _)).trans ((Below.heap_alloc _ _ _ ha2.out.1).trans hB2.out))
    have hr3 := Lib.hid (hk'.rd ((Wk.alloc (w.heap.size + 1) _ v2 _).rd hr2.out hs2.out) (fun a ha => (hs2.out a ha).alloc _))
    have hq3 := Lib.hid (hk'.rd ((Wk.alloc (w.heap.size + 1) _ v2 _).rd hq2.out hu2.out) (fun a ha => (hu2.out a ha).alloc _))
    have hs3 : Hid (∀ a, AC = some a → Ap (w.heap.size + 1) v3 w3 a.block) := fun a ha => hk'.ap ((hs2.out a ha).alloc _)
    have hu3 : Hid (∀ a, AP = some a → Ap (w.heap.size + 1) v3 w3 a.block) := fun a ha => hk'.ap ((hu2.out a ha).alloc _)
    clear hk' hw2 ha2 hb2 hB2 hr2 hq2 hs2 hu2
    have c3 : w3.cell? ⟨w.heap.size, 3, none⟩ = some (sV e.post.label) := cell_of_row w3 _ 3 _ _ _ hB3.out
    have c4 : w3.cell? ⟨w.heap.size, 4, none⟩ = some (iV e.post.frm) := cell_of_row w3 _ 4 _ _ _ hB3.out
    have c5 : w3.cell? ⟨w.heap.size, 5, none⟩ = some (iV e.post.to) := cell_of_row w3 _ 5 _ _ _ hB3.out
    have c6 : w3.cell? ⟨w.heap.size, 6, none⟩ = some (iV e.post.cls) := cell_of_row w3 _ 6 _ _ _ hB3.out
    have c7 : w3.cell? ⟨w.heap.size, 7, none⟩ = some (iV e.post.acc) := cell_of_row w3 _ 7 _ _ _ hB3.out
    go_wp2_with fail
    clear c3 c4 c5 c6 c7
    refine (posts_any (w.heap.size + 1) v3 _ _ e.post _ _ _ (hw3.out.alloc _) (heap_alloc_new _ _) HOK.out.post (hw3.out.ap_new _)).mono ?_
    rintro x w4 ⟨rfl, v4, hk', hw'⟩
    have hw4 := Lib.hid hw'; clear hw'
    have ha4 := Lib.hid (hk'.ap (ha3.out.alloc _))
    have hb4 : Hid (Below w.heap.size w w4) := hb3.out.trans (((Below.refl _ _).alloc (by have := hb3.out.size; omega) _).trans ((hk'.below (hw3.out.alloc _)).mono (by omega)))
    have hB4 := Lib.hid ((hk'.heap (ha3.out.alloc _)).trans ((Below.heap_alloc _ _ _ ha3.out.1).trans hB3.out))
    have hr4 := Lib.hid (hk'.rd ((Wk.alloc (w.heap.size + 1) _ v3 _).rd hr3.out hs3.out) (fun a ha => (hs3.out a ha).alloc _))
    have hq4 := Lib.hid (hk'.rd ((Wk.alloc (w.heap.size + 1) _ v3 _).rd hq3.out hu3.out) (fun a ha => (hu3.out a ha).alloc _))
    have hs4 : Hid (∀ a, AC = some a → Ap (w.heap.size + 1) v4 w4 a.block) := fun a ha => hk'.ap ((hs3.out a ha).alloc _)
    have hu4 : Hid (∀ a, AP = some a → Ap (w.heap.size + 1) v4 w4 a.block) := fun a ha => hk'.ap ((hu3.out a ha).alloc _)
    clear hk' hw3 ha3 hb3 hB3 hr3 hq3 hs3 hu3
    have c8 : w4.cell? ⟨w.heap.size, 8, none⟩ = some (iV e.rcd.scanner) := cell_of_row w4 _ 8 _ _ _ hB4.out
    have c9 : w4.cell? ⟨w.heap.size, 9, none⟩ = some (iV e.rcd.number) := cell_of_row w4 _ 9 _ _ _ hB4.out
    have c10 : w4.cell? ⟨w.heap.size, 10, none⟩ = some (iV e.rcd.kind) := cell_of_row w4 _ 10 _ _ _ hB4.out
    have c11 : w4.cell? ⟨w.heap.size, 11, none⟩ = some (iV e.rcd.time) := cell_of_row w4 _ 11 _ _ _ hB4.out
    have c12 : w4.cell? ⟨w.heap.size, 12, none⟩ = some (sV e.rcd.label) := cell_of_row w4 _ 12 _ _ _ hB4.out
    have c13 : w4.cell? ⟨w.heap.size, 13, none⟩ = some (.slice AC e.rcd.contents.length cc) := cell_of_row w4 _ 13 _ _ _ hB4.out
    go_wp2_with fail
    clear c8 c9 c10 c11 c12 c13
    refine (records_any (w.heap.size + 1) v4 _ _ e.rcd AC cc _ _ _ (hw4.out.alloc _) (heap_alloc_new _ _) HOK.out.rcd (hw4.out.ap_new _) ((Wk.alloc (w.heap.size + 1) _ v4 _).rd hr4.out hs4.out) (fun a ha => (hs4.out a ha).alloc _)).mono ?_
    rintro x w5 ⟨rfl, v5, hk', hw'⟩
    have hw5 := Lib.hid hw'; clear hw'
    have ha5 := Lib.hid (hk'.ap (ha4.out.alloc _))
    have hb5 : Hid (Below w.heap.size w w5) := hb4.out.trans (((Below.refl _ _).alloc (by have := hb4.out.size; omega) _).trans ((hk'.below (hw4.out.alloc _)).mono (by omega)))
    have hB5 := Lib.hid ((hk'.heap (ha4.out.alloc _)).trans ((Below.heap_alloc _ _ _ ha4.out.1).trans hB4.out))
    have hr5 := Lib.hid (hk'.rd ((Wk.alloc (w.heap.size + 1) _ v4 _).rd hr4.out hs4.out) (fun a ha => (hs4.out a ha).alloc _))
    have hq5 := Lib.hid (hk'.rd ((Wk.alloc (w.heap.size + 1) _ v4 _).rd hq4.out hu4.out) (fun a ha => (hu4.out a ha).alloc _))
    have hs5 : Hid (∀ a, AC = some a → Ap (w.heap.size + 1) v5 w5 a.block) := fun a ha => hk'.ap ((hs4.out a ha).alloc _)
    have hu5 : Hid (∀ a, AP = some a → Ap (w.heap.size + 1) v5 w5 a.block) := fun a ha => hk'.ap ((hu4.out a ha).alloc _)
    clear hk' hw4 ha4 hb4 hB4 hr4 hq4 hs4 hu4
    have c14 : w5.cell? ⟨w.heap.size, 14, none⟩ = some (sV e.paper.sl) := cell_of_row w5 _ 14 _ _ _ hB5.out
    have c15 : w5.cell? ⟨w.heap.size, 15, none⟩ = some (iV e.paper.frm) := cell_of_row w5 _ 15 _ _ _ hB5.out
    have c16 : w5.cell? ⟨w.heap.size, 16, none⟩ = some (iV e.paper.to) := cell_of_row w5 _ 16 _ _ _ hB5.out
    have c17 : w5.cell? ⟨w.heap.size, 17, none⟩ = some (iV e.paper.time) := cell_of_row w5 _ 17 _ _ _ hB5.out
    have c18 : w5.cell? ⟨w.heap.size, 18, none⟩ = some (iV e.paper.count) := cell_of_row w5 _ 18 _ _ _ hB5.out
    have c19 : w5.cell? ⟨w.heap.size, 19, none⟩ = some (iV e.paper.root) := cell_of_row w5 _ 19 _ _ _ hB5.out
    have c20 : w5.cell? ⟨w.heap.size, 20, none⟩ = some (iV e.paper.give) := cell_of_row w5 _ 20 _ _ _ hB5.out
    have c21 : w5.cell? ⟨w.heap.size, 21, none⟩ = some (iV e.paper.take) := cell_of_row w5 _ 21 _ _ _ hB5.out
    have c22 : w5.cell? ⟨w.heap.size, 22, none⟩ = some (sV e.paper.label) := cell_of_row w5 _ 22 _ _ _ hB5.out
    have c23 : w5.cell? ⟨w.heap.size, 23, none⟩ = some (iV e.paper.index) := cell_of_row w5 _ 23 _ _ _ hB5.out
    have c24 : w5.cell? ⟨w.heap.size, 24, none⟩ = some (.slice AP e.paper.path.length cp) := cell_of_row w5 _ 24 _ _ _ hB5.out
    go_wp2_with fail
    clear c14 c15 c16 c17 c18 c19 c20 c21 c22 c23 c24
    refine (papers_any (w.heap.size + 1) v5 _ _ e.paper AP cp _ _ _ (hw5.out.alloc _) (heap_alloc_new _ _) HOK.out.paper (hw5.out.ap_new _) ((Wk.alloc (w.heap.size + 1) _ v5 _).rd hq5.out hu5.out) (fun a ha => (hu5.out a ha).alloc _)).mono ?_
    rintro x w6 ⟨rfl, v6, hk', hw'⟩
    have hw6 := Lib.hid hw'; clear hw'
    have ha6 := Lib.hid (hk'.ap (ha5.out.alloc _))
    have hb6 : Hid (Below w.heap.size w w6) := hb5.out.trans (((Below.refl _ _).alloc (by have := hb5.out.size; omega) _).trans ((hk'.below (hw5.out.alloc _)).mono (by omega)))
    have hB6 := Lib.hid ((hk'.heap (ha5.out.alloc _)).trans ((Below.heap_alloc _ _ _ ha5.out.1).trans hB5.out))
    have hr6 := Lib.hid (hk'.rd ((Wk.alloc (w.heap.size + 1) _ v5 _).rd hr5.out hs5.out) (fun a ha => (hs5.out a ha).alloc _))
    have hq6 := Lib.hid (hk'.rd ((Wk.alloc (w.heap.size + 1) _ v5 _).rd hq5.out hu5.out) (fun a ha => (hu5.out a ha).alloc _))
    have hs6 : Hid (∀ a, AC = some a → Ap (w.heap.size + 1) v6 w6 a.block) := fun a ha => hk'.ap ((hs5.out a ha).alloc _)
    have hu6 : Hid (∀ a, AP = some a → Ap (w.heap.size + 1) v6 w6 a.block) := fun a ha => hk'.ap ((hu5.out a ha).alloc _)
    clear hk' hw5 ha5 hb5 hB5 hr5 hq5 hs5 hu5
    have c25 : w6.cell? ⟨w.heap.size, 25, none⟩ = some (sV e.cpost.label) := cell_of_row w6 _ 25 _ _ _ hB6.out
    have c26 : w6.cell? ⟨w.heap.size, 26, none⟩ = some (iV e.cpost.frm) := cell_of_row w6 _ 26 _ _ _ hB6.out
    have c27 : w6.cell? ⟨w.heap.size, 27, none⟩ = some (iV e.cpost.to) := cell_of_row w6 _ 27 _ _ _ hB6.out
    have c28 : w6.cell? ⟨w.heap.size, 28, none⟩ = some (iV e.cpost.cls) := cell_of_row w6 _ 28 _ _ _ hB6.out
    have c29 : w6.cell? ⟨w.heap.size, 29, none⟩ = some (iV e.cpost.acc) := cell_of_row w6 _ 29 _ _ _ hB6.out
    go_wp2_with fail
    clear c25 c26 c27 c28 c29
    refine (posts_any (w.heap.size + 1) v6 _ _ e.cpost _ _ _ (hw6.out.alloc _) (heap_alloc_new _ _) HOK.out.cpost (hw6.out.ap_new _)).mono ?_
    rintro x w7 ⟨rfl, v7, hk', hw'⟩
    have hw7 := Lib.hid hw'; clear hw'
    have ha7 := Lib.hid (hk'.ap (ha6.out.alloc _))
    have hb7 : Hid (Below w.heap.size w w7) := hb6.out.trans (((Below.refl _ _).alloc (by have := hb6.out.size; omega) _).trans ((hk'.below (hw6.out.alloc _)).mono (by omega)))
    have hB7 := Lib.hid ((hk'.heap (ha6.out.alloc _)).trans ((Below.heap_alloc _ _ _ ha6.out.1).trans hB6.out))
    have hr7 := Lib.hid (hk'.rd ((Wk.alloc (w.heap.size + 1) _ v6 _).rd hr6.out hs6.out) (fun a ha => (hs6.out a ha).alloc _))
    have hq7 := Lib.hid (hk'.rd ((Wk.alloc (w.heap.size + 1) _ v6 _).rd hq6.out hu6.out) (fun a ha => (hu6.out a ha).alloc _))
    have hs7 : Hid (∀ a, AC = some a → Ap (w.heap.size + 1) v7 w7 a.block) := fun a ha => hk'.ap ((hs6.out a ha).alloc _)
    have hu7 : Hid (∀ a, AP = some a → Ap (w.heap.size + 1) v7 w7 a.block) := fun a ha => hk'.ap ((hu6.out a ha).alloc _)
    clear hk' hw6 ha6 hb6 hB6 hr6 hq6 hs6 hu6
    have c30 : w7.cell? ⟨w.heap.size, 30, none⟩ = some (iV e.due) := cell_of_row w7 _ 30 _ _ _ hB7.out
    have c31 : w7.cell? ⟨w.heap.size, 31, none⟩ = some (iV e.amount) := cell_of_row w7 _ 31 _ _ _ hB7.out
    go_wp2_with fail
    clear c30 c31
    refine (numbers_any (w.heap.size + 1) v7 _ _ [e.due, e.amount] 2 2 _ (hw7.out.alloc _) (by simpa using Rd.new w7 [iV e.due, iV e.amount] _) rfl (by simp) HOK.out.last (fun a ha => by cases ha; simpa using hw7.out.ap_new _)).mono ?_
    rintro x w8 ⟨rfl, v8, hk', hw'⟩
    have hw8 := Lib.hid hw'; clear hw'
    have ha8 := Lib.hid (hk'.ap (ha7.out.alloc _))
    have hb8 : Hid (Below w.heap.size w w8) := hb7.out.trans (((Below.refl _ _).alloc (by have := hb7.out.size; omega) _).trans ((hk'.below (hw7.out.alloc _)).mono (by omega)))
    have hB8 := Lib.hid ((hk'.heap (ha7.out.alloc _)).trans ((Below.heap_alloc _ _ _ ha7.out.1).trans hB7.out))
    have hr8 := Lib.hid (hk'.rd ((Wk.alloc (w.heap.size + 1) _ v7 _).rd hr7.out hs7.out) (fun a ha => (hs7.out a ha).alloc _))
    have hq8 := Lib.hid (hk'.rd ((Wk.alloc (w.heap.size + 1) _ v7 _).rd hq7.out hu7.out) (fun a ha => (hu7.out a ha).alloc _))
    have hs8 : Hid (∀ a, AC = some a → Ap (w.heap.size + 1) v8 w8 a.block) := fun a ha => hk'.ap ((hs7.out a ha).alloc _)
    have hu8 : Hid (∀ a, AP = some a → Ap (w.heap.size + 1) v8 w8 a.block) := fun a ha => hk'.ap ((hu7.out a ha).alloc _)
    clear hk' hw7 ha7 hb7 hB7 hr7 hq7 hs7 hu7
    have hm : Hid (Wr w8 (w.heap.size + 1) v8 (logW e)) := hw8.out
    clear hw8
    obtain ⟨st', hst'⟩ : ∃ st', st' = logW e := ⟨_, rfl⟩
    have henc' : Hid (encode e = st') := by rw [hst']; exact henc.out
    rw [← hst'] at hm
    clear hst' henc
    have hfull := hm.out.full
    have hbytes := hm.out.bytes
    cases st' with
    | none =>
      simp only [Option.isNone_none] at hfull
      go_wp2
      go_ret
      exact ⟨hb8.out, by rw [henc'.out]; rfl⟩
    | some l =>
      simp only [Option.isNone_some] at hfull
      obtain ⟨A, c, hv⟩ := own_form (hm.out.row l rfl).2
      have hrow : Hid (w8.ownsRow w.heap.size 5 1 v8 l.length (l.map bV)) := own_base (hm.out.row l rfl).2 (by omega)
      subst hv
      go_wp2
      go_ret
      exact ⟨hb8.out, by rw [henc'.out]; exact ⟨A, c, rfl, hrow.out⟩⟩
end Go.Proofs.Ytoaembpakmpolaa
