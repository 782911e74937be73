/-
  The walks over the reference of the journal: whether texts and lists are short; Encode. (Written by a program: wip/jou/gen_ref8.py.)
-/
import Derived.Test.YtoaembpakmpolaaJouRef7
namespace Go.Proofs.Ytoaembpakmpolaa
open Go.RowKit Jou
attribute [local go_sem] ba_get ba_extract ba_append

set_option maxHeartbeats 4000000 in
set_option maxRecDepth 100000 in
theorem fshort_any (e : Log) (AC : Option Addr) (cc : Nat) (AP : Option Addr) (cp : Nat) (w : World) (hC : Rd w AC (e.rcd.contents.map sV)) (ht : Tells e) :
    Calls Try.prog 48 #[.agg (logCells e AC cc AP cp)] w fun x w' => x = .returned (.bool true) ∧ Below w.heap.size w w' := by
  obtain ⟨g1, g2, ⟨g3, g4, g5⟩, ⟨g6, g7, g8⟩, g9⟩ := ht
  have i1 : (e.text.length : Int) ≤ 65535 := by omega
  have i2 : (e.post.label.length : Int) ≤ 65535 := by omega
  have i3 : (e.rcd.label.length : Int) ≤ 65535 := by omega
  have i4 : (e.rcd.contents.length : Int) ≤ 65535 := by omega
  have i6 : (e.paper.sl.length : Int) ≤ 65535 := by omega
  have i7 : (e.paper.label.length : Int) ≤ 65535 := by omega
  have i8 : (e.paper.path.length : Int) ≤ 65535 := by omega
  have i9 : (e.cpost.label.length : Int) ≤ 65535 := by omega
  have HG5 := Lib.hid g5; clear g5
  have HX := Lib.hid (heap_alloc_new w (.cells (logCells e AC cc AP cp) 37))
  have HB0 := Lib.hid (ba w (.cells (logCells e AC cc AP cp) 37))
  have HC := Lib.hid (hC.below HB0.out); clear hC
  unfold logCells at HX HB0 HC ⊢
  go_enter Try.func48, Try.ntmps48
  go_upto_region 1 with fail
  change Code.wp _ _ _ _ (w.alloc (.cells #[iV e.kind, iV e.n, sV e.text, sV e.post.label, iV e.post.frm, iV e.post.to, iV e.post.cls, iV e.post.acc, iV e.rcd.scanner, iV e.rcd.number, iV e.rcd.kind, iV e.rcd.time, sV e.rcd.label, .slice AC e.rcd.contents.length cc, sV e.paper.sl, iV e.paper.frm, iV e.paper.to, iV e.paper.time, iV e.paper.count, iV e.paper.root, iV e.paper.give, iV e.paper.take, sV e.paper.label, iV e.paper.index, .slice AP e.paper.path.length cp, sV e.cpost.label, iV e.cpost.frm, iV e.cpost.to, iV e.cpost.cls, iV e.cpost.acc, iV e.due, iV e.amount] 37))
  generalize (w.alloc (.cells #[iV e.kind, iV e.n, sV e.text, sV e.post.label, iV e.post.frm, iV e.post.to, iV e.post.cls, iV e.post.acc, iV e.rcd.scanner, iV e.rcd.number, iV e.rcd.kind, iV e.rcd.time, sV e.rcd.label, .slice AC e.rcd.contents.length cc, sV e.paper.sl, iV e.paper.frm, iV e.paper.to, iV e.paper.time, iV e.paper.count, iV e.paper.root, iV e.paper.give, iV e.paper.take, sV e.paper.label, iV e.paper.index, .slice AP e.paper.path.length cp, sV e.cpost.label, iV e.cpost.frm, iV e.cpost.to, iV e.cpost.cls, iV e.cpost.acc, iV e.due, iV e.amount] 37)) = W0 at *
  have k2 : W0.cell? ⟨w.heap.size, 2, none⟩ = some (sV e.text) := cell_of_row W0 _ 2 _ _ _ HX.out
  have k3 : W0.cell? ⟨w.heap.size, 3, none⟩ = some (sV e.post.label) := cell_of_row W0 _ 3 _ _ _ HX.out
  have k12 : W0.cell? ⟨w.heap.size, 12, none⟩ = some (sV e.rcd.label) := cell_of_row W0 _ 12 _ _ _ HX.out
  have k13 : W0.cell? ⟨w.heap.size, 13, none⟩ = some (.slice AC e.rcd.contents.length cc) := cell_of_row W0 _ 13 _ _ _ HX.out
  have k14 : W0.cell? ⟨w.heap.size, 14, none⟩ = some (sV e.paper.sl) := cell_of_row W0 _ 14 _ _ _ HX.out
  have k22 : W0.cell? ⟨w.heap.size, 22, none⟩ = some (sV e.paper.label) := cell_of_row W0 _ 22 _ _ _ HX.out
  have k24 : W0.cell? ⟨w.heap.size, 24, none⟩ = some (.slice AP e.paper.path.length cp) := cell_of_row W0 _ 24 _ _ _ HX.out
  have k25 : W0.cell? ⟨w.heap.size, 25, none⟩ = some (sV e.cpost.label) := cell_of_row W0 _ 25 _ _ _ HX.out
  go_wp2
  go_loop [3] (fun i => ∃ k : Nat, k ≤ e.rcd.contents.length ∧ i = iV k) (fun i => e.rcd.contents.length - (intOf i).toNat)
  case atStart => exact ⟨0, Nat.zero_le _, rfl⟩
  case round =>
    obtain ⟨k, hk, rfl⟩ := hrel
    by_cases hlt : k < e.rcd.contents.length
    · obtain ⟨b, off, rfl, hb1, hcc⟩ := HC.out.get (i := k) (by simpa using hlt)
      have kk : W0.cell? ⟨b, off + k, none⟩ = some (sV e.rcd.contents[k]) := hcc k _ (by simp [hlt])
      clear hcc
      have j1 : (0 : Int) ≤ (k : Int) := by omega
      have j2 : (k : Int) < (e.rcd.contents.length : Int) := by omega
      have j3 : (e.rcd.contents[k].length : Int) ≤ 65535 := by have := HG5.out _ (List.getElem_mem hlt); omega
      go_wp2
      go_round
      case rel => exact ⟨k + 1, by omega, by go_num⟩
      case measure => simp [intOf]; omega
    · obtain rfl : k = e.rcd.contents.length := by omega
      go_wp2
      go_ret
      exact ⟨rfl, HB0.out⟩
set_option maxHeartbeats 8000000 in
set_option maxRecDepth 100000 in
theorem fencode_any (e : Log) (AC : Option Addr) (cc : Nat) (AP : Option Addr) (cp : Nat) (w : World) (hok : Log.Ok e) (hC : Rd w AC (e.rcd.contents.map sV)) (hP : Rd w AP (e.paper.path.map iV)) (ht : Tells e) (hlen : (logB e).length ≤ 1000000) :
    Calls Try.prog 20 #[.agg (logCells e AC cc AP cp)] w fun x w' => Below w.heap.size w w' ∧ RowRes w.heap.size w' x (encode e) := by
  obtain ⟨i0, hi0, hz0, hz1, hz2⟩ := info_parts byteInf
  by_cases hkind : e.kind < 1 ∨ 8 < e.kind
  · have henc : Hid (encode e = none) := by unfold encode; rw [if_pos hkind]; exact rfl
    unfold logCells
    clear ht hlen hC hP hok
    go_enter Try.func20, Try.ntmps20
    rcases hkind with hk | hk
    · go_wp2
      go_ret
      exact ⟨(Below.refl _ _).alloc (Nat.le_refl _) _, by rw [henc.out]; rfl⟩
    · have hk1 : ¬ e.kind < 1 := by omega
      go_wp2
      go_ret
      exact ⟨(Below.refl _ _).alloc (Nat.le_refl _) _, by rw [henc.out]; rfl⟩
  have hk1 : ¬ e.kind < 1 := fun h => hkind (.inl h)
  have hk2 : ¬ 8 < e.kind := fun h => hkind (.inr h)
  have henc : Hid (encode e = logW e) := by unfold encode; rw [if_neg hkind]; exact rfl
  clear hkind
  have HKB := Lib.hid (kind_byte e.kind (by omega) (by omega))
  have HOK := Lib.hid hok; clear hok
  have HTL := Lib.hid ht; clear ht
  have HLE := Lib.hid hlen; clear hlen
  have HX := Lib.hid (heap_alloc_new w (.cells (logCells e AC cc AP cp) 37))
  have HB0 := Lib.hid (ba w (.cells (logCells e AC cc AP cp) 37))
  have HC := Lib.hid hC; clear hC
  have HP := Lib.hid hP; clear hP
  have hW1 : w.heap.size < (w.alloc (.cells (logCells e AC cc AP cp) 37)).heap.size := by simp
  unfold logCells at HX HB0 hW1 ⊢
  go_enter Try.func20, Try.ntmps20
  go_upto_region 1 with fail
  change Code.wp _ _ _ _ (w.alloc (.cells #[iV e.kind, iV e.n, sV e.text, sV e.post.label, iV e.post.frm, iV e.post.to, iV e.post.cls, iV e.post.acc, iV e.rcd.scanner, iV e.rcd.number, iV e.rcd.kind, iV e.rcd.time, sV e.rcd.label, .slice AC e.rcd.contents.length cc, sV e.paper.sl, iV e.paper.frm, iV e.paper.to, iV e.paper.time, iV e.paper.count, iV e.paper.root, iV e.paper.give, iV e.paper.take, sV e.paper.label, iV e.paper.index, .slice AP e.paper.path.length cp, sV e.cpost.label, iV e.cpost.frm, iV e.cpost.to, iV e.cpost.cls, iV e.cpost.acc, iV e.due, iV e.amount] 37))
  generalize (w.alloc (.cells #[iV e.kind, iV e.n, sV e.text, sV e.post.label, iV e.post.frm, iV e.post.to, iV e.post.cls, iV e.post.acc, iV e.rcd.scanner, iV e.rcd.number, iV e.rcd.kind, iV e.rcd.time, sV e.rcd.label, .slice AC e.rcd.contents.length cc, sV e.paper.sl, iV e.paper.frm, iV e.paper.to, iV e.paper.time, iV e.paper.count, iV e.paper.root, iV e.paper.give, iV e.paper.take, sV e.paper.label, iV e.paper.index, .slice AP e.paper.path.length cp, sV e.cpost.label, iV e.cpost.frm, iV e.cpost.to, iV e.cpost.cls, iV e.cpost.acc, iV e.due, iV e.amount] 37)) = W0 at *
  have k0 : W0.cell? ⟨w.heap.size, 0, none⟩ = some (iV e.kind) := cell_of_row W0 _ 0 _ _ _ HX.out
  go_upto_region 3 with (first
    | (refine wpList_step (fun K hK => ?_); rw [if_pos (by rfl)]; refine wp_load_row 37 (.tmp 1) (by rfl) w.heap.size (by rfl) 37 #[iV e.kind, iV e.n, sV e.text, sV e.post.label, iV e.post.frm, iV e.post.to, iV e.post.cls, iV e.post.acc, iV e.rcd.scanner, iV e.rcd.number, iV e.rcd.kind, iV e.rcd.time, sV e.rcd.label, .slice AC e.rcd.contents.length cc, sV e.paper.sl, iV e.paper.frm, iV e.paper.to, iV e.paper.time, iV e.paper.count, iV e.paper.root, iV e.paper.give, iV e.paper.take, sV e.paper.label, iV e.paper.index, .slice AP e.paper.path.length cp, sV e.cpost.label, iV e.cpost.frm, iV e.cpost.to, iV e.cpost.cls, iV e.cpost.acc, iV e.due, iV e.amount] (0, 0) _ HX.out Try.underlying37 rfl lgInf (hK _ _ ?_); clear hK K)
    | (go_at_call 48; refine (fshort_any e AC cc AP cp _ (HC.out.below HB0.out) HTL.out).mono ?_; rintro x w1 ⟨rfl, hb⟩; have HN1 := Lib.hid hb; clear hb)
    | fail)
  clear k0
  have HS0 : Hid (∀ w', Below W0.heap.size W0 w' → w'.cell? ⟨w.heap.size, 0, none⟩ = some (iV e.kind) ∧ w'.cell? ⟨w.heap.size, 1, none⟩ = some (iV e.n)) := fun w' h => by
    have hb : w'.heap[w.heap.size]? = W0.heap[w.heap.size]? := h.block _ hW1
    exact ⟨cell_of_row w' _ 0 _ _ _ (hb.trans HX.out), cell_of_row w' _ 1 _ _ _ (hb.trans HX.out)⟩
  have HS2 : Hid (∀ w', Below W0.heap.size W0 w' → w'.cell? ⟨w.heap.size, 2, none⟩ = some (sV e.text) ∧ w'.cell? ⟨w.heap.size, 3, none⟩ = some (sV e.post.label) ∧ w'.cell? ⟨w.heap.size, 4, none⟩ = some (iV e.post.frm) ∧ w'.cell? ⟨w.heap.size, 5, none⟩ = some (iV e.post.to) ∧ w'.cell? ⟨w.heap.size, 6, none⟩ = some (iV e.post.cls) ∧ w'.cell? ⟨w.heap.size, 7, none⟩ = some (iV e.post.acc)) := fun w' h => by
    have hb : w'.heap[w.heap.size]? = W0.heap[w.heap.size]? := h.block _ hW1
    exact ⟨cell_of_row w' _ 2 _ _ _ (hb.trans HX.out), cell_of_row w' _ 3 _ _ _ (hb.trans HX.out), cell_of_row w' _ 4 _ _ _ (hb.trans HX.out), cell_of_row w' _ 5 _ _ _ (hb.trans HX.out), cell_of_row w' _ 6 _ _ _ (hb.trans HX.out), cell_of_row w' _ 7 _ _ _ (hb.trans HX.out)⟩
  have HS8 : Hid (∀ w', Below W0.heap.size W0 w' → w'.cell? ⟨w.heap.size, 8, none⟩ = some (iV e.rcd.scanner) ∧ w'.cell? ⟨w.heap.size, 9, none⟩ = some (iV e.rcd.number) ∧ w'.cell? ⟨w.heap.size, 10, none⟩ = some (iV e.rcd.kind) ∧ w'.cell? ⟨w.heap.size, 11, none⟩ = some (iV e.rcd.time) ∧ w'.cell? ⟨w.heap.size, 12, none⟩ = some (sV e.rcd.label) ∧ w'.cell? ⟨w.heap.size, 13, none⟩ = some (.slice AC e.rcd.contents.length cc) ∧ w'.cell? ⟨w.heap.size, 14, none⟩ = some (sV e.paper.sl) ∧ w'.cell? ⟨w.heap.size, 15, none⟩ = some (iV e.paper.frm) ∧ w'.cell? ⟨w.heap.size, 16, none⟩ = some (iV e.paper.to) ∧ w'.cell? ⟨w.heap.size, 17, none⟩ = some (iV e.paper.time) ∧ w'.cell? ⟨w.heap.size, 18, none⟩ = some (iV e.paper.count) ∧ w'.cell? ⟨w.heap.size, 19, none⟩ = some (iV e.paper.root) ∧ w'.cell? ⟨w.heap.size, 20, none⟩ = some (iV e.paper.give) ∧ w'.cell? ⟨w.heap.size, 21, none⟩ = some (iV e.paper.take) ∧ w'.cell? ⟨w.heap.size, 22, none⟩ = some (sV e.paper.label) ∧ w'.cell? ⟨w.heap.size, 23, none⟩ = some (iV e.paper.index) ∧ w'.cell? ⟨w.heap.size, 24, none⟩ = some (.slice AP e.paper.path.length cp)) := fun w' h => by
    have hb : w'.heap[w.heap.size]? = W0.heap[w.heap.size]? := h.block _ hW1
    exact ⟨cell_of_row w' _ 8 _ _ _ (hb.trans HX.out), cell_of_row w' _ 9 _ _ _ (hb.trans HX.out), cell_of_row w' _ 10 _ _ _ (hb.trans HX.out), cell_of_row w' _ 11 _ _ _ (hb.trans HX.out), cell_of_row w' _ 12 _ _ _ (hb.trans HX.out), cell_of_row w' _ 13 _ _ _ (hb.trans HX.out), cell_of_row w' _ 14 _ _ _ (hb.trans HX.out), cell_of_row w' _ 15 _ _ _ (hb.trans HX.out), cell_of_row w' _ 16 _ _ _ (hb.trans HX.out), cell_of_row w' _ 17 _ _ _ (hb.trans HX.out), cell_of_row w' _ 18 _ _ _ (hb.trans HX.out), cell_of_row w' _ 19 _ _ _ (hb.trans HX.out), cell_of_row w' _ 20 _ _ _ (hb.trans HX.out), cell_of_row w' _ 21 _ _ _ (hb.trans HX.out), cell_of_row w' _ 22 _ _ _ (hb.trans HX.out), cell_of_row w' _ 23 _ _ _ (hb.trans HX.out), cell_of_row w' _ 24 _ _ _ (hb.trans HX.out)⟩
  have HS25 : Hid (∀ w', Below W0.heap.size W0 w' → w'.cell? ⟨w.heap.size, 25, none⟩ = some (sV e.cpost.label) ∧ w'.cell? ⟨w.heap.size, 26, none⟩ = some (iV e.cpost.frm) ∧ w'.cell? ⟨w.heap.size, 27, none⟩ = some (iV e.cpost.to) ∧ w'.cell? ⟨w.heap.size, 28, none⟩ = some (iV e.cpost.cls) ∧ w'.cell? ⟨w.heap.size, 29, none⟩ = some (iV e.cpost.acc) ∧ w'.cell? ⟨w.heap.size, 30, none⟩ = some (iV e.due) ∧ w'.cell? ⟨w.heap.size, 31, none⟩ = some (iV e.amount)) := fun w' h => by
    have hb : w'.heap[w.heap.size]? = W0.heap[w.heap.size]? := h.block _ hW1
    exact ⟨cell_of_row w' _ 25 _ _ _ (hb.trans HX.out), cell_of_row w' _ 26 _ _ _ (hb.trans HX.out), cell_of_row w' _ 27 _ _ _ (hb.trans HX.out), cell_of_row w' _ 28 _ _ _ (hb.trans HX.out), cell_of_row w' _ 29 _ _ _ (hb.trans HX.out), cell_of_row w' _ 30 _ _ _ (hb.trans HX.out), cell_of_row w' _ 31 _ _ _ (hb.trans HX.out)⟩
  have HKL : Hid ([Value.int .u8 (IntKind.u8.wrap e.kind)] = ([UInt8.ofNat e.kind.toNat] : List UInt8).map bV) := by
    show _ = _
    have h := HKB.out
    rw [IntWalk.u8_in _ (by omega)]
    rw [Int.emod_eq_of_lt (by omega) (by omega)] at h
    simp only [List.map_cons, List.map_nil, bV, ← h]
  have HL : Hid (logB e = ((([UInt8.ofNat e.kind.toNat] ++ numB e.n) ++ txtB e.text ++ postB e.post) ++ recB e.rcd ++ paperB e.paper) ++ postB e.cpost ++ numsB [e.due, e.amount]) := by
    show _ = _
    unfold logB
    simp only [numsB_cons, numsB_nil, List.append_assoc, List.append_nil]
  have HB3 : Hid (∀ (a b : List UInt8), logB e = a ++ b → a.length ≤ 1000000) := fun a b h => by have := HLE.out; rw [h, List.length_append] at this; omega
  have HR1 : Hid ((recB e.rcd).length ≤ 1000000) := by show _ ≤ _; have := HLE.out; rw [HL.out] at this; simp only [List.length_append] at this; omega
  have HK3 := Lib.hid (HB3.out ([UInt8.ofNat e.kind.toNat] ++ numB e.n) _ (by rw [HL.out]; first | done | (simp only [List.append_assoc]; first | done | rfl)))
  have HK4a := Lib.hid (HB3.out (([UInt8.ofNat e.kind.toNat] ++ numB e.n) ++ txtB e.text) _ (by rw [HL.out]; first | done | (simp only [List.append_assoc]; first | done | rfl)))
  have HK4 := Lib.hid (HB3.out (([UInt8.ofNat e.kind.toNat] ++ numB e.n) ++ txtB e.text ++ postB e.post) _ (by rw [HL.out]; first | done | (simp only [List.append_assoc]; first | done | rfl)))
  have HK5a := Lib.hid (HB3.out ((([UInt8.ofNat e.kind.toNat] ++ numB e.n) ++ txtB e.text ++ postB e.post) ++ recB e.rcd) _ (by rw [HL.out]; first | done | (simp only [List.append_assoc]; first | done | rfl)))
  have HK5 := Lib.hid (HB3.out ((([UInt8.ofNat e.kind.toNat] ++ numB e.n) ++ txtB e.text ++ postB e.post) ++ recB e.rcd ++ paperB e.paper) _ (by rw [HL.out]; first | done | (simp only [List.append_assoc]; first | done | rfl)))
  have HK6a := Lib.hid (HB3.out (((([UInt8.ofNat e.kind.toNat] ++ numB e.n) ++ txtB e.text ++ postB e.post) ++ recB e.rcd ++ paperB e.paper) ++ postB e.cpost) _ (by rw [HL.out]; first | done | (simp only [List.append_assoc]; first | done | rfl)))
  have HK6 := Lib.hid (HB3.out (((([UInt8.ofNat e.kind.toNat] ++ numB e.n) ++ txtB e.text ++ postB e.post) ++ recB e.rcd ++ paperB e.paper) ++ postB e.cpost ++ numsB [e.due, e.amount]) [] (by rw [HL.out]; simp only [List.append_assoc, List.append_nil]))
  have HXb := Lib.hid hW1; clear hW1
  go_cut [3] (fun v wx => ∃ A n c, v = .slice A n c ∧ Hid (wx.ownsRow W0.heap.size 5 1 v n (([UInt8.ofNat e.kind.toNat] ++ numB e.n).map bV)) ∧ Hid (Below W0.heap.size W0 wx))
  case first =>
    refine wp_region_noPanic ?_
    refine wp_region_held_drew (S := (fun w' => w'.cell? ⟨w.heap.size, 0, none⟩ = some (iV e.kind) ∧ w'.cell? ⟨w.heap.size, 1, none⟩ = some (iV e.n))) (by kernel_rfl) (HS0.out _ ((b_drew (HN1.out)))) (fun hHeld => ?_)
    refine wpAnyH_take (i := 0) (v := ?_) rfl (by kernel_rfl) (by kernel_rfl) (by kernel_rfl) (fun _ _ _ h => h) (Or.inl ⟨by kernel_rfl, ?_⟩) (by assumption) ?_
    rotate_left
    · (intro w hSw; (try dsimp only at hSw); go_simp; (try with_reducible rfl))
    refine wpAnyH_take (i := 4) (v := ?_) rfl (by kernel_rfl) (by kernel_rfl) (by kernel_rfl) (fun _ _ _ h => h) (Or.inl ⟨by kernel_rfl, ?_⟩) (by assumption) ?_
    rotate_left
    · (intro w hSw; (try dsimp only at hSw); go_simp; (try with_reducible rfl))
    refine wpAnyH_take (i := 1) (v := ?_) rfl (by kernel_rfl) (by kernel_rfl) (by kernel_rfl) (fun _ _ _ h => h) (Or.inl ⟨by kernel_rfl, ?_⟩) (by assumption) ?_
    rotate_left
    · (intro w hSw; (try dsimp only at hSw); go_simp; (try with_reducible rfl))
    refine wpAnyH_take (i := 5) (v := ?_) rfl (by kernel_rfl) (by kernel_rfl) (by kernel_rfl) (fun _ _ _ h => h) (Or.inl ⟨by kernel_rfl, ?_⟩) (by assumption) ?_
    rotate_left
    · (intro w hSw; (try dsimp only at hSw); go_simp; (try with_reducible rfl))
    refine wpAnyH_take (i := 2) (v := ?_) rfl (by kernel_rfl) (by kernel_rfl) (by kernel_rfl) (fun _ _ _ h => h) (Or.inl ⟨by kernel_rfl, ?_⟩) (by assumption) ?_
    rotate_left
    · (intro w hSw; (try dsimp only at hSw); go_simp; (try with_reducible rfl))
    refine wpAnyH_ready (rs := [3, 6]) (by kernel_rfl) (by simp) ?_
    refine AllReadyH.cons rfl (fun K hK => ?a1) (AllReadyH.cons rfl (fun K hK => ?a2) AllReadyH.nil)
    case a1 =>
      go_simp
      have ho_a3 := own_newL w1 [Value.int .u8 (IntKind.u8.wrap e.kind)] 5 (by simp [maxLen])
      have HO_a3 : Hid ((w1.alloc (.cells #[Value.int .u8 (IntKind.u8.wrap e.kind)] 5)).drew.ownsRow W0.heap.size 5 1 (.slice (some ⟨w1.heap.size, 0, none⟩) 1 1) 1 (([UInt8.ofNat e.kind.toNat]).map bV)) := by
        show World.ownsRow _ _ _ _ _ _ _
        rw [← HKL.out]
        exact own_base ho_a3 ((b_drew (HN1.out))).size
      clear ho_a3
      refine hK.out _ _ (HS0.out _ ((((b_drew (HN1.out))).alloc ((b_drew (HN1.out))).size _))) (fun hHeld => ?_)
      clear hK K
      refine wpAnyH_ready (rs := [6]) (by kernel_rfl) (by simp) ?_
      refine AllReadyH.cons rfl (fun K hK => ?_) AllReadyH.nil
      go_simp
      refine (fnumber_any e.n _ (HOK.out.n _ (by simp))).mono ?_
      rintro e w_a6 ⟨A_a6, c_a6, rfl, ho_a6, hb_a6⟩
      have HO_a6 := Lib.hid (own_base ho_a6 ((((b_drew (HN1.out))).alloc ((b_drew (HN1.out))).size _)).size)
      have HN_a6 := Lib.hid (((((b_drew (HN1.out))).alloc ((b_drew (HN1.out))).size _)).trans (hb_a6.mono ((((b_drew (HN1.out))).alloc ((b_drew (HN1.out))).size _)).size))
      have HL_a6_3 := Lib.hid (own_lt (HO_a3.out) ho_a6)
      have HO_a6_3 := Lib.hid (own_below (HO_a3.out) hb_a6)
      clear ho_a6 hb_a6
      go_wp2_with fail
      refine hK.out _ _ (HS0.out _ (HN_a6.out)) (fun hHeld => ?_)
      clear hK K
      refine wpAnyH_ready (rs := [7]) (by kernel_rfl) (by simp) ?_
      refine AllReadyH.cons rfl (fun K hK => ?_) AllReadyH.nil
      have hx_a7 := own_len (HO_a6_3.out)
      have hy_a7 := own_len (HO_a6.out)
      have HX_a7 := Lib.hid hx_a7
      have HY_a7 := Lib.hid hy_a7
      refine step_app (by rfl) _ _ _ _ (by rfl) W0.heap.size 5 i0 _ 1 1 Try.underlying38 hi0 hz0 hz1 hz2 (by rfl) _ (1) _ (by rfl) (HO_a6_3.out) _ (by rfl) ((numB e.n).length) ((numB e.n).map bV) (src_rd Try.underlying38 (own_rd (HO_a6.out)) ((List.length_map _).trans hy_a7) (one_b _)) (by unfold maxLen; have : (numB e.n).length = 8 := rfl; omega) (by have : (numB e.n).length = 8 := rfl; omega) ((HN_a6.out).size) ?_
      clear hx_a7 hy_a7
      intro A_a7 c_a7 w_a7 ho_a7 hg_a7 _
      have HN_a7 := Lib.hid (app_below (HN_a6.out) (Nat.le_refl _) (HO_a6_3.out) (Nat.le_refl _) hg_a7)
      have HO_a7 := Lib.hid (own_app ho_a7)
      clear ho_a7 hg_a7
      refine hK.out _ _ (HS0.out _ (HN_a7.out)) (fun hHeld => ?_)
      clear hK K
      refine wpAnyH_take (i := 8) (v := ?_) rfl (by kernel_rfl) (by kernel_rfl) (by kernel_rfl) (fun _ _ _ h => h) (Or.inl ⟨by kernel_rfl, ?_⟩) (by assumption) ?_
      rotate_left
      · (intro w hSw; (try dsimp only at hSw); go_simp; (try with_reducible rfl))
      refine wpAnyH_done (by kernel_rfl) ?_ _
      refine NoPanic.normal ?_
      go_wp2_with fail
      go_meet
      exact ⟨_, _, _, rfl, Lib.hid (HO_a7.out), Lib.hid (HN_a7.out)⟩
    case a2 =>
      go_simp
      refine (fnumber_any e.n _ (HOK.out.n _ (by simp))).mono ?_
      rintro e w_a6 ⟨A_a6, c_a6, rfl, ho_a6, hb_a6⟩
      have HO_a6 := Lib.hid (own_base ho_a6 ((b_drew (HN1.out))).size)
      have HN_a6 := Lib.hid (((b_drew (HN1.out))).trans (hb_a6.mono ((b_drew (HN1.out))).size))
      clear ho_a6 hb_a6
      go_wp2_with fail
      refine hK.out _ _ (HS0.out _ (HN_a6.out)) (fun hHeld => ?_)
      clear hK K
      refine wpAnyH_ready (rs := [3]) (by kernel_rfl) (by simp) ?_
      refine AllReadyH.cons rfl (fun K hK => ?_) AllReadyH.nil
      go_simp
      have ho_a3 := own_newL w_a6 [Value.int .u8 (IntKind.u8.wrap e.kind)] 5 (by simp [maxLen])
      have HL_a3_6 := Lib.hid (own_lt (HO_a6.out) ho_a3)
      have HO_a3 : Hid ((w_a6.alloc (.cells #[Value.int .u8 (IntKind.u8.wrap e.kind)] 5)).ownsRow W0.heap.size 5 1 (.slice (some ⟨w_a6.heap.size, 0, none⟩) 1 1) 1 (([UInt8.ofNat e.kind.toNat]).map bV)) := by
        show World.ownsRow _ _ _ _ _ _ _
        rw [← HKL.out]
        exact own_base ho_a3 (HN_a6.out).size
      clear ho_a3
      refine hK.out _ _ (HS0.out _ (((HN_a6.out).alloc (HN_a6.out).size _))) (fun hHeld => ?_)
      clear hK K
      refine wpAnyH_ready (rs := [7]) (by kernel_rfl) (by simp) ?_
      refine AllReadyH.cons rfl (fun K hK => ?_) AllReadyH.nil
      have hx_a7 := own_len (HO_a3.out)
      have hy_a7 := own_len ((World.ownsRow.alloc (HO_a6.out) (.cells #[Value.int .u8 (IntKind.u8.wrap e.kind)] 5)))
      have HX_a7 := Lib.hid hx_a7
      have HY_a7 := Lib.hid hy_a7
      refine step_app (by rfl) _ _ _ _ (by rfl) W0.heap.size 5 i0 _ 1 1 Try.underlying38 hi0 hz0 hz1 hz2 (by rfl) _ (1) _ (by rfl) (HO_a3.out) _ (by rfl) ((numB e.n).length) ((numB e.n).map bV) (src_rd Try.underlying38 (own_rd ((World.ownsRow.alloc (HO_a6.out) (.cells #[Value.int .u8 (IntKind.u8.wrap e.kind)] 5)))) ((List.length_map _).trans hy_a7) (one_b _)) (by unfold maxLen; have : (numB e.n).length = 8 := rfl; omega) (by have : (numB e.n).length = 8 := rfl; omega) ((((HN_a6.out).alloc (HN_a6.out).size _)).size) ?_
      clear hx_a7 hy_a7
      intro A_a7 c_a7 w_a7 ho_a7 hg_a7 _
      have HN_a7 := Lib.hid (app_below (((HN_a6.out).alloc (HN_a6.out).size _)) (Nat.le_refl _) (HO_a3.out) (Nat.le_refl _) hg_a7)
      have HO_a7 := Lib.hid (own_app ho_a7)
      clear ho_a7 hg_a7
      refine hK.out _ _ (HS0.out _ (HN_a7.out)) (fun hHeld => ?_)
      clear hK K
      refine wpAnyH_take (i := 8) (v := ?_) rfl (by kernel_rfl) (by kernel_rfl) (by kernel_rfl) (fun _ _ _ h => h) (Or.inl ⟨by kernel_rfl, ?_⟩) (by assumption) ?_
      rotate_left
      · (intro w hSw; (try dsimp only at hSw); go_simp; (try with_reducible rfl))
      refine wpAnyH_done (by kernel_rfl) ?_ _
      refine NoPanic.normal ?_
      go_wp2_with fail
      go_meet
      exact ⟨_, _, _, rfl, Lib.hid (HO_a7.out), Lib.hid (HN_a7.out)⟩
  case rest =>
    obtain ⟨A3, m3, c3, rfl, HO, HN⟩ := hcut
    have HM3 : Hid (m3 ≤ 1000000) := by show _ ≤ _; have h0 := own_len HO.out; have := HK3.out; omega
    have HCx : Hid (Rd wc AC (e.rcd.contents.map sV)) := HC.out.below (HB0.out.trans (HN.out.mono HB0.out.size))
    go_wp2_with fail
    refine wp_region_noPanic ?_
    refine wp_region_held_drew (S := (fun w' => w'.cell? ⟨w.heap.size, 2, none⟩ = some (sV e.text) ∧ w'.cell? ⟨w.heap.size, 3, none⟩ = some (sV e.post.label) ∧ w'.cell? ⟨w.heap.size, 4, none⟩ = some (iV e.post.frm) ∧ w'.cell? ⟨w.heap.size, 5, none⟩ = some (iV e.post.to) ∧ w'.cell? ⟨w.heap.size, 6, none⟩ = some (iV e.post.cls) ∧ w'.cell? ⟨w.heap.size, 7, none⟩ = some (iV e.post.acc))) (by kernel_rfl) (HS2.out _ ((b_drew (HN.out)))) (fun hHeld => ?_)
    refine wpAnyH_take (i := 0) (v := ?_) rfl (by kernel_rfl) (by kernel_rfl) (by kernel_rfl) (fun _ _ _ h => h) (Or.inl ⟨by kernel_rfl, ?_⟩) (by assumption) ?_
    rotate_left
    · (intro w hSw; (try dsimp only at hSw); go_simp; (try with_reducible rfl))
    refine wpAnyH_take (i := 1) (v := ?_) rfl (by kernel_rfl) (by kernel_rfl) (by kernel_rfl) (fun _ _ _ h => h) (Or.inl ⟨by kernel_rfl, ?_⟩) (by assumption) ?_
    rotate_left
    · (intro w hSw; (try dsimp only at hSw); go_simp; (try with_reducible rfl))
    refine wpAnyH_take (i := 5) (v := ?_) rfl (by kernel_rfl) (by kernel_rfl) (by kernel_rfl) (fun _ _ _ h => h) (Or.inl ⟨by kernel_rfl, ?_⟩) (by assumption) ?_
    rotate_left
    · (intro w hSw; (try dsimp only at hSw); go_simp; (try with_reducible rfl))
    refine wpAnyH_take (i := 2) (v := ?_) rfl (by kernel_rfl) (by kernel_rfl) (by kernel_rfl) (fun _ _ _ h => h) (Or.inl ⟨by kernel_rfl, ?_⟩) (by assumption) ?_
    rotate_left
    · (intro w hSw; (try dsimp only at hSw); go_simp; (try with_reducible rfl))
    refine wpAnyH_take (i := 6) (v := ?_) rfl (by kernel_rfl) (by kernel_rfl) (by kernel_rfl) (fun _ _ _ h => h) (Or.inl ⟨by kernel_rfl, ?_⟩) (by assumption) ?_
    rotate_left
    · (intro w hSw; (try dsimp only at hSw); go_simp; (try with_reducible rfl))
    refine wpAnyH_ready (rs := [3]) (by kernel_rfl) (by simp) ?_
    refine AllReadyH.cons rfl (fun K hK => ?_) AllReadyH.nil
    go_simp
    refine (ftext_any e.text _ (by have := HTL.out.1; omega)).mono ?_
    rintro e w_b3 ⟨A_b3, c_b3, rfl, ho_b3, hb_b3⟩
    have HO_b3 := Lib.hid (own_base ho_b3 ((b_drew (HN.out))).size)
    have HN_b3 := Lib.hid (((b_drew (HN.out))).trans (hb_b3.mono ((b_drew (HN.out))).size))
    have HL_b3_0 := Lib.hid (own_lt ((World.ownsRow.drew (HO.out))) ho_b3)
    have HO_b3_0 := Lib.hid (own_below ((World.ownsRow.drew (HO.out))) hb_b3)
    clear ho_b3 hb_b3
    go_wp2_with fail
    refine hK.out _ _ (HS2.out _ (HN_b3.out)) (fun hHeld => ?_)
    clear hK K
    refine wpAnyH_ready (rs := [4]) (by kernel_rfl) (by simp) ?_
    refine AllReadyH.cons rfl (fun K hK => ?_) AllReadyH.nil
    have hx_b4 := own_len (HO_b3_0.out)
    have hy_b4 := own_len (HO_b3.out)
    have HX_b4 := Lib.hid hx_b4
    have HY_b4 := Lib.hid hy_b4
    refine step_app (by rfl) _ _ _ _ (by rfl) W0.heap.size 5 i0 _ 1 1 Try.underlying38 hi0 hz0 hz1 hz2 (by rfl) _ (m3) _ (by rfl) (HO_b3_0.out) _ (by rfl) ((txtB e.text).length) ((txtB e.text).map bV) (src_rd Try.underlying38 (own_rd (HO_b3.out)) ((List.length_map _).trans hy_b4) (one_b _)) (by unfold maxLen; have := HM3.out; have := HTL.out.1; have := txtB_len e.text; omega) (by have := HM3.out; have := HTL.out.1; have := txtB_len e.text; omega) ((HN_b3.out).size) ?_
    clear hx_b4 hy_b4
    intro A_b4 c_b4 w_b4 ho_b4 hg_b4 _
    have HN_b4 := Lib.hid (app_below (HN_b3.out) (Nat.le_refl _) (HO_b3_0.out) (Nat.le_refl _) hg_b4)
    have HO_b4 := Lib.hid (own_app ho_b4)
    clear ho_b4 hg_b4
    refine hK.out _ _ (HS2.out _ (HN_b4.out)) (fun hHeld => ?_)
    clear hK K
    refine wpAnyH_ready (rs := [7]) (by kernel_rfl) (by simp) ?_
    refine AllReadyH.cons rfl (fun K hK => ?_) AllReadyH.nil
    go_simp
    refine (fpostB_any e.post _ HOK.out.post HTL.out.2.1).mono ?_
    rintro e w_b7 ⟨A_b7, c_b7, rfl, ho_b7, hb_b7⟩
    have HO_b7 := Lib.hid (own_base ho_b7 (HN_b4.out).size)
    have HN_b7 := Lib.hid ((HN_b4.out).trans (hb_b7.mono (HN_b4.out).size))
    have HL_b7_4 := Lib.hid (own_lt (HO_b4.out) ho_b7)
    have HO_b7_4 := Lib.hid (own_below (HO_b4.out) hb_b7)
    clear ho_b7 hb_b7
    go_wp2_with fail
    refine hK.out _ _ (HS2.out _ (HN_b7.out)) (fun hHeld => ?_)
    clear hK K
    refine wpAnyH_ready (rs := [8]) (by kernel_rfl) (by simp) ?_
    refine AllReadyH.cons rfl (fun K hK => ?_) AllReadyH.nil
    have hx_b8 := own_len (HO_b7_4.out)
    have hy_b8 := own_len (HO_b7.out)
    have HX_b8 := Lib.hid hx_b8
    have HY_b8 := Lib.hid hy_b8
    refine step_app (by rfl) _ _ _ _ (by rfl) W0.heap.size 5 i0 _ 1 1 Try.underlying38 hi0 hz0 hz1 hz2 (by rfl) _ (m3 + (txtB e.text).length) _ (by rfl) (HO_b7_4.out) _ (by rfl) ((postB e.post).length) ((postB e.post).map bV) (src_rd Try.underlying38 (own_rd (HO_b7.out)) ((List.length_map _).trans hy_b8) (one_b _)) (by unfold maxLen; have h1 := HK4.out; have h2 := own_len HO.out; simp only [List.length_append] at h1 h2; omega) (by have h1 := HK4.out; have h2 := own_len HO.out; simp only [List.length_append] at h1 h2; omega) ((HN_b7.out).size) ?_
    clear hx_b8 hy_b8
    intro A_b8 c_b8 w_b8 ho_b8 hg_b8 _
    have HN_b8 := Lib.hid (app_below (HN_b7.out) (Nat.le_refl _) (HO_b7_4.out) (Nat.le_refl _) hg_b8)
    have HO_b8 := Lib.hid (own_app ho_b8)
    clear ho_b8 hg_b8
    refine hK.out _ _ (HS2.out _ (HN_b8.out)) (fun hHeld => ?_)
    clear hK K
    refine wpAnyH_take (i := 9) (v := ?_) rfl (by kernel_rfl) (by kernel_rfl) (by kernel_rfl) (fun _ _ _ h => h) (Or.inl ⟨by kernel_rfl, ?_⟩) (by assumption) ?_
    rotate_left
    · (intro w hSw; (try dsimp only at hSw); go_simp; (try with_reducible rfl))
    refine wpAnyH_done (by kernel_rfl) ?_ _
    refine NoPanic.normal ?_
    have HO4 := Lib.hid (HO_b8.out)
    have HN4 := Lib.hid (HN_b8.out)
    obtain ⟨N4, hN4⟩ : ∃ N, N = m3 + (txtB e.text).length + (postB e.post).length := ⟨_, rfl⟩
    rw [← hN4] at HO4 ⊢
    clear hN4
    have HCx : Hid (Rd w_b8 AC (e.rcd.contents.map sV)) := HC.out.below (HB0.out.trans (HN4.out.mono HB0.out.size))
    have HPx : Hid (Rd w_b8 AP (e.paper.path.map iV)) := HP.out.below (HB0.out.trans (HN4.out.mono HB0.out.size))
    clear HO HN HM3
    go_wp2_with fail
    refine wp_region_noPanic ?_
    refine wp_region_held_drew (S := (fun w' => w'.cell? ⟨w.heap.size, 8, none⟩ = some (iV e.rcd.scanner) ∧ w'.cell? ⟨w.heap.size, 9, none⟩ = some (iV e.rcd.number) ∧ w'.cell? ⟨w.heap.size, 10, none⟩ = some (iV e.rcd.kind) ∧ w'.cell? ⟨w.heap.size, 11, none⟩ = some (iV e.rcd.time) ∧ w'.cell? ⟨w.heap.size, 12, none⟩ = some (sV e.rcd.label) ∧ w'.cell? ⟨w.heap.size, 13, none⟩ = some (.slice AC e.rcd.contents.length cc) ∧ w'.cell? ⟨w.heap.size, 14, none⟩ = some (sV e.paper.sl) ∧ w'.cell? ⟨w.heap.size, 15, none⟩ = some (iV e.paper.frm) ∧ w'.cell? ⟨w.heap.size, 16, none⟩ = some (iV e.paper.to) ∧ w'.cell? ⟨w.heap.size, 17, none⟩ = some (iV e.paper.time) ∧ w'.cell? ⟨w.heap.size, 18, none⟩ = some (iV e.paper.count) ∧ w'.cell? ⟨w.heap.size, 19, none⟩ = some (iV e.paper.root) ∧ w'.cell? ⟨w.heap.size, 20, none⟩ = some (iV e.paper.give) ∧ w'.cell? ⟨w.heap.size, 21, none⟩ = some (iV e.paper.take) ∧ w'.cell? ⟨w.heap.size, 22, none⟩ = some (sV e.paper.label) ∧ w'.cell? ⟨w.heap.size, 23, none⟩ = some (iV e.paper.index) ∧ w'.cell? ⟨w.heap.size, 24, none⟩ = some (.slice AP e.paper.path.length cp))) (by kernel_rfl) (HS8.out _ ((b_drew (HN4.out)))) (fun hHeld => ?_)
    refine wpAnyH_take (i := 0) (v := ?_) rfl (by kernel_rfl) (by kernel_rfl) (by kernel_rfl) (fun _ _ _ h => h) (Or.inl ⟨by kernel_rfl, ?_⟩) (by assumption) ?_
    rotate_left
    · (intro w hSw; (try dsimp only at hSw); go_simp; (try with_reducible rfl))
    refine wpAnyH_take (i := 1) (v := ?_) rfl (by kernel_rfl) (by kernel_rfl) (by kernel_rfl) (fun _ _ _ h => h) (Or.inl ⟨by kernel_rfl, ?_⟩) (by assumption) ?_
    rotate_left
    · (intro w hSw; (try dsimp only at hSw); go_simp; (try with_reducible rfl))
    refine wpAnyH_take (i := 5) (v := ?_) rfl (by kernel_rfl) (by kernel_rfl) (by kernel_rfl) (fun _ _ _ h => h) (Or.inl ⟨by kernel_rfl, ?_⟩) (by assumption) ?_
    rotate_left
    · (intro w hSw; (try dsimp only at hSw); go_simp; (try with_reducible rfl))
    refine wpAnyH_take (i := 2) (v := ?_) rfl (by kernel_rfl) (by kernel_rfl) (by kernel_rfl) (fun _ _ _ h => h) (Or.inl ⟨by kernel_rfl, ?_⟩) (by assumption) ?_
    rotate_left
    · (intro w hSw; (try dsimp only at hSw); go_simp; (try with_reducible rfl))
    refine wpAnyH_take (i := 6) (v := ?_) rfl (by kernel_rfl) (by kernel_rfl) (by kernel_rfl) (fun _ _ _ h => h) (Or.inl ⟨by kernel_rfl, ?_⟩) (by assumption) ?_
    rotate_left
    · (intro w hSw; (try dsimp only at hSw); go_simp; (try with_reducible rfl))
    refine wpAnyH_ready (rs := [3]) (by kernel_rfl) (by simp) ?_
    refine AllReadyH.cons rfl (fun K hK => ?_) AllReadyH.nil
    go_simp
    refine (frecB_any e.rcd AC cc _ (show Rd w_b8.drew _ _ from HCx.out) HOK.out.rcd HTL.out.2.2.1.1 HTL.out.2.2.1.2.1 HTL.out.2.2.1.2.2 HR1.out).mono ?_
    rintro e w_d3 ⟨A_d3, c_d3, rfl, ho_d3, hb_d3⟩
    have HO_d3 := Lib.hid (own_base ho_d3 ((b_drew (HN4.out))).size)
    have HN_d3 := Lib.hid (((b_drew (HN4.out))).trans (hb_d3.mono ((b_drew (HN4.out))).size))
    have HL_d3_0 := Lib.hid (own_lt ((World.ownsRow.drew (HO4.out))) ho_d3)
    have HO_d3_0 := Lib.hid (own_below ((World.ownsRow.drew (HO4.out))) hb_d3)
    clear ho_d3 hb_d3
    go_wp2_with fail
    refine hK.out _ _ (HS8.out _ (HN_d3.out)) (fun hHeld => ?_)
    clear hK K
    refine wpAnyH_ready (rs := [4]) (by kernel_rfl) (by simp) ?_
    refine AllReadyH.cons rfl (fun K hK => ?_) AllReadyH.nil
    have hx_d4 := own_len (HO_d3_0.out)
    have hy_d4 := own_len (HO_d3.out)
    have HX_d4 := Lib.hid hx_d4
    have HY_d4 := Lib.hid hy_d4
    refine step_app (by rfl) _ _ _ _ (by rfl) W0.heap.size 5 i0 _ 1 1 Try.underlying38 hi0 hz0 hz1 hz2 (by rfl) _ (N4) _ (by rfl) (HO_d3_0.out) _ (by rfl) ((recB e.rcd).length) ((recB e.rcd).map bV) (src_rd Try.underlying38 (own_rd (HO_d3.out)) ((List.length_map _).trans hy_d4) (one_b _)) (by unfold maxLen; have h1 := HK5a.out; have h2 := own_len HO4.out; simp only [List.length_append] at h1 h2; omega) (by have h1 := HK5a.out; have h2 := own_len HO4.out; simp only [List.length_append] at h1 h2; omega) ((HN_d3.out).size) ?_
    clear hx_d4 hy_d4
    intro A_d4 c_d4 w_d4 ho_d4 hg_d4 _
    have HN_d4 := Lib.hid (app_below (HN_d3.out) (Nat.le_refl _) (HO_d3_0.out) (Nat.le_refl _) hg_d4)
    have HO_d4 := Lib.hid (own_app ho_d4)
    clear ho_d4 hg_d4
    refine hK.out _ _ (HS8.out _ (HN_d4.out)) (fun hHeld => ?_)
    clear hK K
    refine wpAnyH_ready (rs := [7]) (by kernel_rfl) (by simp) ?_
    refine AllReadyH.cons rfl (fun K hK => ?_) AllReadyH.nil
    go_simp
    refine (fpaperB_any e.paper AP cp _ (HP.out.below (HB0.out.trans (HN_d4.out.mono HB0.out.size))) HOK.out.paper HTL.out.2.2.2.1.1 HTL.out.2.2.2.1.2.1 HTL.out.2.2.2.1.2.2).mono ?_
    rintro e w_d7 ⟨A_d7, c_d7, rfl, ho_d7, hb_d7⟩
    have HO_d7 := Lib.hid (own_base ho_d7 (HN_d4.out).size)
    have HN_d7 := Lib.hid ((HN_d4.out).trans (hb_d7.mono (HN_d4.out).size))
    have HL_d7_4 := Lib.hid (own_lt (HO_d4.out) ho_d7)
    have HO_d7_4 := Lib.hid (own_below (HO_d4.out) hb_d7)
    clear ho_d7 hb_d7
    go_wp2_with fail
    refine hK.out _ _ (HS8.out _ (HN_d7.out)) (fun hHeld => ?_)
    clear hK K
    refine wpAnyH_ready (rs := [8]) (by kernel_rfl) (by simp) ?_
    refine AllReadyH.cons rfl (fun K hK => ?_) AllReadyH.nil
    have hx_d8 := own_len (HO_d7_4.out)
    have hy_d8 := own_len (HO_d7.out)
    have HX_d8 := Lib.hid hx_d8
    have HY_d8 := Lib.hid hy_d8
    refine step_app (by rfl) _ _ _ _ (by rfl) W0.heap.size 5 i0 _ 1 1 Try.underlying38 hi0 hz0 hz1 hz2 (by rfl) _ (N4 + (recB e.rcd).length) _ (by rfl) (HO_d7_4.out) _ (by rfl) ((paperB e.paper).length) ((paperB e.paper).map bV) (src_rd Try.underlying38 (own_rd (HO_d7.out)) ((List.length_map _).trans hy_d8) (one_b _)) (by unfold maxLen; have h1 := HK5.out; have h2 := own_len HO4.out; simp only [List.length_append] at h1 h2; omega) (by have h1 := HK5.out; have h2 := own_len HO4.out; simp only [List.length_append] at h1 h2; omega) ((HN_d7.out).size) ?_
    clear hx_d8 hy_d8
    intro A_d8 c_d8 w_d8 ho_d8 hg_d8 _
    have HN_d8 := Lib.hid (app_below (HN_d7.out) (Nat.le_refl _) (HO_d7_4.out) (Nat.le_refl _) hg_d8)
    have HO_d8 := Lib.hid (own_app ho_d8)
    clear ho_d8 hg_d8
    refine hK.out _ _ (HS8.out _ (HN_d8.out)) (fun hHeld => ?_)
    clear hK K
    refine wpAnyH_take (i := 9) (v := ?_) rfl (by kernel_rfl) (by kernel_rfl) (by kernel_rfl) (fun _ _ _ h => h) (Or.inl ⟨by kernel_rfl, ?_⟩) (by assumption) ?_
    rotate_left
    · (intro w hSw; (try dsimp only at hSw); go_simp; (try with_reducible rfl))
    refine wpAnyH_done (by kernel_rfl) ?_ _
    refine NoPanic.normal ?_
    have HO5 := Lib.hid (HO_d8.out)
    have HN5 := Lib.hid (HN_d8.out)
    obtain ⟨N5, hN5⟩ : ∃ N, N = N4 + (recB e.rcd).length + (paperB e.paper).length := ⟨_, rfl⟩
    rw [← hN5] at HO5 ⊢
    clear hN5 HO4 HN4
    go_wp2_with fail
    refine wp_region_noPanic ?_
    refine wp_region_held_drew (S := (fun w' => w'.cell? ⟨w.heap.size, 25, none⟩ = some (sV e.cpost.label) ∧ w'.cell? ⟨w.heap.size, 26, none⟩ = some (iV e.cpost.frm) ∧ w'.cell? ⟨w.heap.size, 27, none⟩ = some (iV e.cpost.to) ∧ w'.cell? ⟨w.heap.size, 28, none⟩ = some (iV e.cpost.cls) ∧ w'.cell? ⟨w.heap.size, 29, none⟩ = some (iV e.cpost.acc) ∧ w'.cell? ⟨w.heap.size, 30, none⟩ = some (iV e.due) ∧ w'.cell? ⟨w.heap.size, 31, none⟩ = some (iV e.amount))) (by kernel_rfl) (HS25.out _ ((b_drew (HN5.out)))) (fun hHeld => ?_)
    refine wpAnyH_take (i := 0) (v := ?_) rfl (by kernel_rfl) (by kernel_rfl) (by kernel_rfl) (fun _ _ _ h => h) (Or.inl ⟨by kernel_rfl, ?_⟩) (by assumption) ?_
    rotate_left
    · (intro w hSw; (try dsimp only at hSw); go_simp; (try with_reducible rfl))
    refine wpAnyH_take (i := 1) (v := ?_) rfl (by kernel_rfl) (by kernel_rfl) (by kernel_rfl) (fun _ _ _ h => h) (Or.inl ⟨by kernel_rfl, ?_⟩) (by assumption) ?_
    rotate_left
    · (intro w hSw; (try dsimp only at hSw); go_simp; (try with_reducible rfl))
    refine wpAnyH_take (i := 6) (v := ?_) rfl (by kernel_rfl) (by kernel_rfl) (by kernel_rfl) (fun _ _ _ h => h) (Or.inl ⟨by kernel_rfl, ?_⟩) (by assumption) ?_
    rotate_left
    · (intro w hSw; (try dsimp only at hSw); go_simp; (try with_reducible rfl))
    refine wpAnyH_take (i := 9) (v := ?_) rfl (by kernel_rfl) (by kernel_rfl) (by kernel_rfl) (fun _ _ _ h => h) (Or.inl ⟨by kernel_rfl, ?_⟩) (by assumption) ?_
    rotate_left
    · (intro w hSw; (try dsimp only at hSw); go_simp; (try with_reducible rfl))
    refine wpAnyH_take (i := 2) (v := ?_) rfl (by kernel_rfl) (by kernel_rfl) (by kernel_rfl) (fun _ _ _ h => h) (Or.inl ⟨by kernel_rfl, ?_⟩) (by assumption) ?_
    rotate_left
    · (intro w hSw; (try dsimp only at hSw); go_simp; (try with_reducible rfl))
    refine wpAnyH_take (i := 7) (v := ?_) rfl (by kernel_rfl) (by kernel_rfl) (by kernel_rfl) (fun _ _ _ h => h) (Or.inl ⟨by kernel_rfl, ?_⟩) (by assumption) ?_
    rotate_left
    · (intro w hSw; (try dsimp only at hSw); go_simp; (try with_reducible rfl))
    refine wpAnyH_take (i := 10) (v := ?_) rfl (by kernel_rfl) (by kernel_rfl) (by kernel_rfl) (fun _ _ _ h => h) (Or.inl ⟨by kernel_rfl, ?_⟩) (by assumption) ?_
    rotate_left
    · (intro w hSw; (try dsimp only at hSw); go_simp; (try with_reducible rfl))
    refine wpAnyH_take (i := 3) (v := ?_) rfl (by kernel_rfl) (by kernel_rfl) (by kernel_rfl) (fun _ _ _ h => h) (Or.inl ⟨by kernel_rfl, ?_⟩) (by assumption) ?_
    rotate_left
    · (intro w hSw; (try dsimp only at hSw); go_simp; (try with_reducible rfl))
    refine wpAnyH_take (i := 8) (v := ?_) rfl (by kernel_rfl) (by kernel_rfl) (by kernel_rfl) (fun _ _ _ h => h) (Or.inl ⟨by kernel_rfl, ?_⟩) (by assumption) ?_
    rotate_left
    · (intro w hSw; (try dsimp only at hSw); go_simp; (try with_reducible rfl))
    refine wpAnyH_take (i := 11) (v := ?_) rfl (by kernel_rfl) (by kernel_rfl) (by kernel_rfl) (fun _ _ _ h => h) (Or.inl ⟨by kernel_rfl, ?_⟩) (by assumption) ?_
    rotate_left
    · (intro w hSw; (try dsimp only at hSw); go_simp; (try with_reducible rfl))
    refine wpAnyH_ready (rs := [4, 12]) (by kernel_rfl) (by simp) ?_
    refine AllReadyH.cons rfl (fun K hK => ?f1) (AllReadyH.cons rfl (fun K hK => ?f2) AllReadyH.nil)
    case f1 =>
      go_simp
      refine (fpostB_any e.cpost _ HOK.out.cpost HTL.out.2.2.2.2).mono ?_
      rintro e w_f4 ⟨A_f4, c_f4, rfl, ho_f4, hb_f4⟩
      have HO_f4 := Lib.hid (own_base ho_f4 ((b_drew (HN5.out))).size)
      have HN_f4 := Lib.hid (((b_drew (HN5.out))).trans (hb_f4.mono ((b_drew (HN5.out))).size))
      have HL_f4_0 := Lib.hid (own_lt ((World.ownsRow.drew (HO5.out))) ho_f4)
      have HO_f4_0 := Lib.hid (own_below ((World.ownsRow.drew (HO5.out))) hb_f4)
      clear ho_f4 hb_f4
      go_wp2_with fail
      refine hK.out _ _ (HS25.out _ (HN_f4.out)) (fun hHeld => ?_)
      clear hK K
      refine wpAnyH_ready (rs := [5, 12]) (by kernel_rfl) (by simp) ?_
      refine AllReadyH.cons rfl (fun K hK => ?f3) (AllReadyH.cons rfl (fun K hK => ?f4) AllReadyH.nil)
      case f3 =>
        have hx_f5 := own_len (HO_f4_0.out)
        have hy_f5 := own_len (HO_f4.out)
        have HX_f5 := Lib.hid hx_f5
        have HY_f5 := Lib.hid hy_f5
        refine step_app (by rfl) _ _ _ _ (by rfl) W0.heap.size 5 i0 _ 1 1 Try.underlying38 hi0 hz0 hz1 hz2 (by rfl) _ (N5) _ (by rfl) (HO_f4_0.out) _ (by rfl) ((postB e.cpost).length) ((postB e.cpost).map bV) (src_rd Try.underlying38 (own_rd (HO_f4.out)) ((List.length_map _).trans hy_f5) (one_b _)) (by unfold maxLen; have h1 := HK6a.out; have h2 := own_len HO5.out; simp only [List.length_append] at h1 h2; omega) (by have h1 := HK6a.out; have h2 := own_len HO5.out; simp only [List.length_append] at h1 h2; omega) ((HN_f4.out).size) ?_
        clear hx_f5 hy_f5
        intro A_f5 c_f5 w_f5 ho_f5 hg_f5 _
        have HN_f5 := Lib.hid (app_below (HN_f4.out) (Nat.le_refl _) (HO_f4_0.out) (Nat.le_refl _) hg_f5)
        have HO_f5 := Lib.hid (own_app ho_f5)
        clear ho_f5 hg_f5
        refine hK.out _ _ (HS25.out _ (HN_f5.out)) (fun hHeld => ?_)
        clear hK K
        refine wpAnyH_ready (rs := [12]) (by kernel_rfl) (by simp) ?_
        refine AllReadyH.cons rfl (fun K hK => ?_) AllReadyH.nil
        go_simp
        refine hK.out _ _ (HS25.out _ (((HN_f5.out).alloc (HN_f5.out).size _))) (fun hHeld => ?_)
        clear hK K
        refine wpAnyH_ready (rs := [13]) (by kernel_rfl) (by simp) ?_
        refine AllReadyH.cons rfl (fun K hK => ?_) AllReadyH.nil
        go_simp
        refine (fnumbers_any [e.due, e.amount] _ _ _ (own_rd ((show World.ownsRow (w_f5.alloc (.cells #[iV e.due, iV e.amount] 3)) _ _ _ _ _ _ from own_newL w_f5 [iV e.due, iV e.amount] 3 (by simp [maxLen])))) HOK.out.last (by simp)).mono ?_
        rintro e w_f13 ⟨A_f13, c_f13, rfl, ho_f13, hb_f13⟩
        have HO_f13 := Lib.hid (own_base ho_f13 (((HN_f5.out).alloc (HN_f5.out).size _)).size)
        have HN_f13 := Lib.hid ((((HN_f5.out).alloc (HN_f5.out).size _)).trans (hb_f13.mono (((HN_f5.out).alloc (HN_f5.out).size _)).size))
        have HL_f13_5 := Lib.hid (own_lt ((World.ownsRow.alloc (HO_f5.out) (.cells #[iV e.due, iV e.amount] 3))) ho_f13)
        have HO_f13_5 := Lib.hid (own_below ((World.ownsRow.alloc (HO_f5.out) (.cells #[iV e.due, iV e.amount] 3))) hb_f13)
        have HR_f13_12 := Lib.hid (own_below ((show World.ownsRow (w_f5.alloc (.cells #[iV e.due, iV e.amount] 3)) _ _ _ _ _ _ from own_newL w_f5 [iV e.due, iV e.amount] 3 (by simp [maxLen]))) hb_f13)
        clear ho_f13 hb_f13
        go_wp2_with fail
        refine hK.out _ _ (HS25.out _ (HN_f13.out)) (fun hHeld => ?_)
        clear hK K
        refine wpAnyH_ready (rs := [14]) (by kernel_rfl) (by simp) ?_
        refine AllReadyH.cons rfl (fun K hK => ?_) AllReadyH.nil
        have hx_f14 := own_len (HO_f13_5.out)
        have hy_f14 := own_len (HO_f13.out)
        have HX_f14 := Lib.hid hx_f14
        have HY_f14 := Lib.hid hy_f14
        refine step_app (by rfl) _ _ _ _ (by rfl) W0.heap.size 5 i0 _ 1 1 Try.underlying38 hi0 hz0 hz1 hz2 (by rfl) _ (N5 + (postB e.cpost).length) _ (by rfl) (HO_f13_5.out) _ (by rfl) ((numsB [e.due, e.amount]).length) ((numsB [e.due, e.amount]).map bV) (src_rd Try.underlying38 (own_rd (HO_f13.out)) ((List.length_map _).trans hy_f14) (one_b _)) (by unfold maxLen; have h1 := HK6.out; have h2 := own_len HO5.out; simp only [List.length_append] at h1 h2; omega) (by have h1 := HK6.out; have h2 := own_len HO5.out; simp only [List.length_append] at h1 h2; omega) ((HN_f13.out).size) ?_
        clear hx_f14 hy_f14
        intro A_f14 c_f14 w_f14 ho_f14 hg_f14 _
        have HN_f14 := Lib.hid (app_below (HN_f13.out) (Nat.le_refl _) (HO_f13_5.out) (Nat.le_refl _) hg_f14)
        have HR_f14_12 := Lib.hid (own_near (HR_f13_12.out) hg_f14 (own_apart' (HR_f13_12.out) (HO_f13_5.out) (by decide)))
        have HO_f14 := Lib.hid (own_app ho_f14)
        clear ho_f14 hg_f14
        refine hK.out _ _ (HS25.out _ (HN_f14.out)) (fun hHeld => ?_)
        clear hK K
        refine wpAnyH_take (i := 15) (v := ?_) rfl (by kernel_rfl) (by kernel_rfl) (by kernel_rfl) (fun _ _ _ h => h) (Or.inl ⟨by kernel_rfl, ?_⟩) (by assumption) ?_
        rotate_left
        · (intro w hSw; (try dsimp only at hSw); go_simp; (try with_reducible rfl))
        refine wpAnyH_done (by kernel_rfl) ?_ _
        refine NoPanic.normal ?_
        have HO6 := Lib.hid (HO_f14.out)
        have HN6 := Lib.hid (HN_f14.out)
        obtain ⟨N6, hN6⟩ : ∃ N, N = N5 + (postB e.cpost).length + (numsB [e.due, e.amount]).length := ⟨_, rfl⟩
        rw [← hN6] at HO6 ⊢
        clear hN6 HO5 HN5
        rw [← HL.out] at HO6
        have hn6 := own_len HO6.out
        by_cases h3 : 3000 < N6
        · have hR : Hid (encode e = none) := by
            rw [henc.out]
            cases h : logW e with
            | none => rfl
            | some c => have := (logW_iff e c).1 h; rw [this.2.1] at this; omega
          have g3 : (3000 : Int) < (N6 : Int) := by omega
          clear hn6
          go_wp2_with fail
          go_ret
          exact ⟨HB0.out.trans (HN6.out.mono HB0.out.size), by rw [hR.out]; rfl⟩
        · have hR : Hid (encode e = some (logB e)) := by
            rw [henc.out]
            exact (logW_iff e _).2 ⟨HTL.out, rfl, by omega⟩
          have g3 : ¬ (3000 : Int) < (N6 : Int) := by omega
          clear hn6
          go_wp2_with fail
          go_ret
          refine ⟨HB0.out.trans (HN6.out.mono HB0.out.size), ?_⟩
          rw [hR.out]
          obtain rfl := own_len HO6.out
          exact ⟨_, _, rfl, own_base HO6.out HB0.out.size⟩
      case f4 =>
        go_simp
        refine hK.out _ _ (HS25.out _ (((HN_f4.out).alloc (HN_f4.out).size _))) (fun hHeld => ?_)
        clear hK K
        refine wpAnyH_ready (rs := [5]) (by kernel_rfl) (by simp) ?_
        refine AllReadyH.cons rfl (fun K hK => ?_) AllReadyH.nil
        have hx_f5 := own_len ((World.ownsRow.alloc (HO_f4_0.out) (.cells #[iV e.due, iV e.amount] 3)))
        have hy_f5 := own_len ((World.ownsRow.alloc (HO_f4.out) (.cells #[iV e.due, iV e.amount] 3)))
        have HX_f5 := Lib.hid hx_f5
        have HY_f5 := Lib.hid hy_f5
        refine step_app (by rfl) _ _ _ _ (by rfl) W0.heap.size 5 i0 _ 1 1 Try.underlying38 hi0 hz0 hz1 hz2 (by rfl) _ (N5) _ (by rfl) ((World.ownsRow.alloc (HO_f4_0.out) (.cells #[iV e.due, iV e.amount] 3))) _ (by rfl) ((postB e.cpost).length) ((postB e.cpost).map bV) (src_rd Try.underlying38 (own_rd ((World.ownsRow.alloc (HO_f4.out) (.cells #[iV e.due, iV e.amount] 3)))) ((List.length_map _).trans hy_f5) (one_b _)) (by unfold maxLen; have h1 := HK6a.out; have h2 := own_len HO5.out; simp only [List.length_append] at h1 h2; omega) (by have h1 := HK6a.out; have h2 := own_len HO5.out; simp only [List.length_append] at h1 h2; omega) ((((HN_f4.out).alloc (HN_f4.out).size _)).size) ?_
        clear hx_f5 hy_f5
        intro A_f5 c_f5 w_f5 ho_f5 hg_f5 _
        have HN_f5 := Lib.hid (app_below (((HN_f4.out).alloc (HN_f4.out).size _)) (Nat.le_refl _) ((World.ownsRow.alloc (HO_f4_0.out) (.cells #[iV e.due, iV e.amount] 3))) (Nat.le_refl _) hg_f5)
        have HR_f5_12 := Lib.hid (own_near ((show World.ownsRow (w_f4.alloc (.cells #[iV e.due, iV e.amount] 3)) _ _ _ _ _ _ from own_newL w_f4 [iV e.due, iV e.amount] 3 (by simp [maxLen]))) hg_f5 (own_apart' ((show World.ownsRow (w_f4.alloc (.cells #[iV e.due, iV e.amount] 3)) _ _ _ _ _ _ from own_newL w_f4 [iV e.due, iV e.amount] 3 (by simp [maxLen]))) ((World.ownsRow.alloc (HO_f4_0.out) (.cells #[iV e.due, iV e.amount] 3))) (by decide)))
        have HO_f5 := Lib.hid (own_app ho_f5)
        clear ho_f5 hg_f5
        refine hK.out _ _ (HS25.out _ (HN_f5.out)) (fun hHeld => ?_)
        clear hK K
        refine wpAnyH_ready (rs := [13]) (by kernel_rfl) (by simp) ?_
        refine AllReadyH.cons rfl (fun K hK => ?_) AllReadyH.nil
        go_simp
        refine (fnumbers_any [e.due, e.amount] _ _ _ (own_rd (HR_f5_12.out)) HOK.out.last (by simp)).mono ?_
        rintro e w_f13 ⟨A_f13, c_f13, rfl, ho_f13, hb_f13⟩
        have HO_f13 := Lib.hid (own_base ho_f13 (HN_f5.out).size)
        have HN_f13 := Lib.hid ((HN_f5.out).trans (hb_f13.mono (HN_f5.out).size))
        have HL_f13_5 := Lib.hid (own_lt (HO_f5.out) ho_f13)
        have HO_f13_5 := Lib.hid (own_below (HO_f5.out) hb_f13)
        have HR_f13_12 := Lib.hid (own_below (HR_f5_12.out) hb_f13)
        clear ho_f13 hb_f13
        go_wp2_with fail
        refine hK.out _ _ (HS25.out _ (HN_f13.out)) (fun hHeld => ?_)
        clear hK K
        refine wpAnyH_ready (rs := [14]) (by kernel_rfl) (by simp) ?_
        refine AllReadyH.cons rfl (fun K hK => ?_) AllReadyH.nil
        have hx_f14 := own_len (HO_f13_5.out)
        have hy_f14 := own_len (HO_f13.out)
        have HX_f14 := Lib.hid hx_f14
        have HY_f14 := Lib.hid hy_f14
        refine step_app (by rfl) _ _ _ _ (by rfl) W0.heap.size 5 i0 _ 1 1 Try.underlying38 hi0 hz0 hz1 hz2 (by rfl) _ (N5 + (postB e.cpost).length) _ (by rfl) (HO_f13_5.out) _ (by rfl) ((numsB [e.due, e.amount]).length) ((numsB [e.due, e.amount]).map bV) (src_rd Try.underlying38 (own_rd (HO_f13.out)) ((List.length_map _).trans hy_f14) (one_b _)) (by unfold maxLen; have h1 := HK6.out; have h2 := own_len HO5.out; simp only [List.length_append] at h1 h2; omega) (by have h1 := HK6.out; have h2 := own_len HO5.out; simp only [List.length_append] at h1 h2; omega) ((HN_f13.out).size) ?_
        clear hx_f14 hy_f14
        intro A_f14 c_f14 w_f14 ho_f14 hg_f14 _
        have HN_f14 := Lib.hid (app_below (HN_f13.out) (Nat.le_refl _) (HO_f13_5.out) (Nat.le_refl _) hg_f14)
        have HR_f14_12 := Lib.hid (own_near (HR_f13_12.out) hg_f14 (own_apart' (HR_f13_12.out) (HO_f13_5.out) (by decide)))
        have HO_f14 := Lib.hid (own_app ho_f14)
        clear ho_f14 hg_f14
        refine hK.out _ _ (HS25.out _ (HN_f14.out)) (fun hHeld => ?_)
        clear hK K
        refine wpAnyH_take (i := 15) (v := ?_) rfl (by kernel_rfl) (by kernel_rfl) (by kernel_rfl) (fun _ _ _ h => h) (Or.inl ⟨by kernel_rfl, ?_⟩) (by assumption) ?_
        rotate_left
        · (intro w hSw; (try dsimp only at hSw); go_simp; (try with_reducible rfl))
        refine wpAnyH_done (by kernel_rfl) ?_ _
        refine NoPanic.normal ?_
        have HO6 := Lib.hid (HO_f14.out)
        have HN6 := Lib.hid (HN_f14.out)
        obtain ⟨N6, hN6⟩ : ∃ N, N = N5 + (postB e.cpost).length + (numsB [e.due, e.amount]).length := ⟨_, rfl⟩
        rw [← hN6] at HO6 ⊢
        clear hN6 HO5 HN5
        rw [← HL.out] at HO6
        have hn6 := own_len HO6.out
        by_cases h3 : 3000 < N6
        · have hR : Hid (encode e = none) := by
            rw [henc.out]
            cases h : logW e with
            | none => rfl
            | some c => have := (logW_iff e c).1 h; rw [this.2.1] at this; omega
          have g3 : (3000 : Int) < (N6 : Int) := by omega
          clear hn6
          go_wp2_with fail
          go_ret
          exact ⟨HB0.out.trans (HN6.out.mono HB0.out.size), by rw [hR.out]; rfl⟩
        · have hR : Hid (encode e = some (logB e)) := by
            rw [henc.out]
            exact (logW_iff e _).2 ⟨HTL.out, rfl, by omega⟩
          have g3 : ¬ (3000 : Int) < (N6 : Int) := by omega
          clear hn6
          go_wp2_with fail
          go_ret
          refine ⟨HB0.out.trans (HN6.out.mono HB0.out.size), ?_⟩
          rw [hR.out]
          obtain rfl := own_len HO6.out
          exact ⟨_, _, rfl, own_base HO6.out HB0.out.size⟩
    case f2 =>
      go_simp
      refine hK.out _ _ (HS25.out _ ((((b_drew (HN5.out))).alloc ((b_drew (HN5.out))).size _))) (fun hHeld => ?_)
      clear hK K
      refine wpAnyH_ready (rs := [4]) (by kernel_rfl) (by simp) ?_
      refine AllReadyH.cons rfl (fun K hK => ?_) AllReadyH.nil
      go_simp
      refine (fpostB_any e.cpost _ HOK.out.cpost HTL.out.2.2.2.2).mono ?_
      rintro e w_f4 ⟨A_f4, c_f4, rfl, ho_f4, hb_f4⟩
      have HO_f4 := Lib.hid (own_base ho_f4 ((((b_drew (HN5.out))).alloc ((b_drew (HN5.out))).size _)).size)
      have HN_f4 := Lib.hid (((((b_drew (HN5.out))).alloc ((b_drew (HN5.out))).size _)).trans (hb_f4.mono ((((b_drew (HN5.out))).alloc ((b_drew (HN5.out))).size _)).size))
      have HL_f4_0 := Lib.hid (own_lt ((World.ownsRow.alloc ((World.ownsRow.drew (HO5.out))) (.cells #[iV e.due, iV e.amount] 3))) ho_f4)
      have HO_f4_0 := Lib.hid (own_below ((World.ownsRow.alloc ((World.ownsRow.drew (HO5.out))) (.cells #[iV e.due, iV e.amount] 3))) hb_f4)
      have HR_f4_12 := Lib.hid (own_below ((show World.ownsRow (w_d8.alloc (.cells #[iV e.due, iV e.amount] 3)).drew _ _ _ _ _ _ from own_newL w_d8 [iV e.due, iV e.amount] 3 (by simp [maxLen]))) hb_f4)
      clear ho_f4 hb_f4
      go_wp2_with fail
      refine hK.out _ _ (HS25.out _ (HN_f4.out)) (fun hHeld => ?_)
      clear hK K
      refine wpAnyH_ready (rs := [5]) (by kernel_rfl) (by simp) ?_
      refine AllReadyH.cons rfl (fun K hK => ?_) AllReadyH.nil
      have hx_f5 := own_len (HO_f4_0.out)
      have hy_f5 := own_len (HO_f4.out)
      have HX_f5 := Lib.hid hx_f5
      have HY_f5 := Lib.hid hy_f5
      refine step_app (by rfl) _ _ _ _ (by rfl) W0.heap.size 5 i0 _ 1 1 Try.underlying38 hi0 hz0 hz1 hz2 (by rfl) _ (N5) _ (by rfl) (HO_f4_0.out) _ (by rfl) ((postB e.cpost).length) ((postB e.cpost).map bV) (src_rd Try.underlying38 (own_rd (HO_f4.out)) ((List.length_map _).trans hy_f5) (one_b _)) (by unfold maxLen; have h1 := HK6a.out; have h2 := own_len HO5.out; simp only [List.length_append] at h1 h2; omega) (by have h1 := HK6a.out; have h2 := own_len HO5.out; simp only [List.length_append] at h1 h2; omega) ((HN_f4.out).size) ?_
      clear hx_f5 hy_f5
      intro A_f5 c_f5 w_f5 ho_f5 hg_f5 _
      have HN_f5 := Lib.hid (app_below (HN_f4.out) (Nat.le_refl _) (HO_f4_0.out) (Nat.le_refl _) hg_f5)
      have HR_f5_12 := Lib.hid (own_near (HR_f4_12.out) hg_f5 (own_apart' (HR_f4_12.out) (HO_f4_0.out) (by decide)))
      have HO_f5 := Lib.hid (own_app ho_f5)
      clear ho_f5 hg_f5
      refine hK.out _ _ (HS25.out _ (HN_f5.out)) (fun hHeld => ?_)
      clear hK K
      refine wpAnyH_ready (rs := [13]) (by kernel_rfl) (by simp) ?_
      refine AllReadyH.cons rfl (fun K hK => ?_) AllReadyH.nil
      go_simp
      refine (fnumbers_any [e.due, e.amount] _ _ _ (own_rd (HR_f5_12.out)) HOK.out.last (by simp)).mono ?_
      rintro e w_f13 ⟨A_f13, c_f13, rfl, ho_f13, hb_f13⟩
      have HO_f13 := Lib.hid (own_base ho_f13 (HN_f5.out).size)
      have HN_f13 := Lib.hid ((HN_f5.out).trans (hb_f13.mono (HN_f5.out).size))
      have HL_f13_5 := Lib.hid (own_lt (HO_f5.out) ho_f13)
      have HO_f13_5 := Lib.hid (own_below (HO_f5.out) hb_f13)
      have HR_f13_12 := Lib.hid (own_below (HR_f5_12.out) hb_f13)
      clear ho_f13 hb_f13
      go_wp2_with fail
      refine hK.out _ _ (HS25.out _ (HN_f13.out)) (fun hHeld => ?_)
      clear hK K
      refine wpAnyH_ready (rs := [14]) (by kernel_rfl) (by simp) ?_
      refine AllReadyH.cons rfl (fun K hK => ?_) AllReadyH.nil
      have hx_f14 := own_len (HO_f13_5.out)
      have hy_f14 := own_len (HO_f13.out)
      have HX_f14 := Lib.hid hx_f14
      have HY_f14 := Lib.hid hy_f14
      refine step_app (by rfl) _ _ _ _ (by rfl) W0.heap.size 5 i0 _ 1 1 Try.underlying38 hi0 hz0 hz1 hz2 (by rfl) _ (N5 + (postB e.cpost).length) _ (by rfl) (HO_f13_5.out) _ (by rfl) ((numsB [e.due, e.amount]).length) ((numsB [e.due, e.amount]).map bV) (src_rd Try.underlying38 (own_rd (HO_f13.out)) ((List.length_map _).trans hy_f14) (one_b _)) (by unfold maxLen; have h1 := HK6.out; have h2 := own_len HO5.out; simp only [List.length_append] at h1 h2; omega) (by have h1 := HK6.out; have h2 := own_len HO5.out; simp only [List.length_append] at h1 h2; omega) ((HN_f13.out).size) ?_
      clear hx_f14 hy_f14
      intro A_f14 c_f14 w_f14 ho_f14 hg_f14 _
      have HN_f14 := Lib.hid (app_below (HN_f13.out) (Nat.le_refl _) (HO_f13_5.out) (Nat.le_refl _) hg_f14)
      have HR_f14_12 := Lib.hid (own_near (HR_f13_12.out) hg_f14 (own_apart' (HR_f13_12.out) (HO_f13_5.out) (by decide)))
      have HO_f14 := Lib.hid (own_app ho_f14)
      clear ho_f14 hg_f14
      refine hK.out _ _ (HS25.out _ (HN_f14.out)) (fun hHeld => ?_)
      clear hK K
      refine wpAnyH_take (i := 15) (v := ?_) rfl (by kernel_rfl) (by kernel_rfl) (by kernel_rfl) (fun _ _ _ h => h) (Or.inl ⟨by kernel_rfl, ?_⟩) (by assumption) ?_
      rotate_left
      · (intro w hSw; (try dsimp only at hSw); go_simp; (try with_reducible rfl))
      refine wpAnyH_done (by kernel_rfl) ?_ _
      refine NoPanic.normal ?_
      have HO6 := Lib.hid (HO_f14.out)
      have HN6 := Lib.hid (HN_f14.out)
      obtain ⟨N6, hN6⟩ : ∃ N, N = N5 + (postB e.cpost).length + (numsB [e.due, e.amount]).length := ⟨_, rfl⟩
      rw [← hN6] at HO6 ⊢
      clear hN6 HO5 HN5
      rw [← HL.out] at HO6
      have hn6 := own_len HO6.out
      by_cases h3 : 3000 < N6
      · have hR : Hid (encode e = none) := by
          rw [henc.out]
          cases h : logW e with
          | none => rfl
          | some c => have := (logW_iff e c).1 h; rw [this.2.1] at this; omega
        have g3 : (3000 : Int) < (N6 : Int) := by omega
        clear hn6
        go_wp2_with fail
        go_ret
        exact ⟨HB0.out.trans (HN6.out.mono HB0.out.size), by rw [hR.out]; rfl⟩
      · have hR : Hid (encode e = some (logB e)) := by
          rw [henc.out]
          exact (logW_iff e _).2 ⟨HTL.out, rfl, by omega⟩
        have g3 : ¬ (3000 : Int) < (N6 : Int) := by omega
        clear hn6
        go_wp2_with fail
        go_ret
        refine ⟨HB0.out.trans (HN6.out.mono HB0.out.size), ?_⟩
        rw [hR.out]
        obtain rfl := own_len HO6.out
        exact ⟨_, _, rfl, own_base HO6.out HB0.out.size⟩
end Go.Proofs.Ytoaembpakmpolaa
