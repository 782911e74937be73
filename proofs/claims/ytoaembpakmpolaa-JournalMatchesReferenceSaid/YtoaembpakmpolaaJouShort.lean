/-
  The walks over Short.
-/
import Derived.Test.YtoaembpakmpolaaJouSame
import Derived.BigGuardPart
namespace Go.Proofs.Ytoaembpakmpolaa
open Go.RowKit Jou
attribute [local go_sem] ba_get ba_extract ba_append

/-- The sizes and numbers of an entry that came in. -/
structure Log.In (e : Log) : Prop where
  kind : I64 e.kind
  n : I64 e.n
  text : e.text.length ≤ maxLen
  plabel : e.post.label.length ≤ maxLen
  pnums : ∀ n ∈ [e.post.frm, e.post.to, e.post.cls, e.post.acc], I64 n
  rnums : ∀ n ∈ [e.rcd.scanner, e.rcd.number, e.rcd.kind, e.rcd.time], I64 n
  rlabel : e.rcd.label.length ≤ maxLen
  contents : e.rcd.contents.length ≤ maxLen
  each : ∀ s ∈ e.rcd.contents, s.length ≤ maxLen
  sl : e.paper.sl.length ≤ maxLen
  qnums : ∀ n ∈ [e.paper.frm, e.paper.to, e.paper.time, e.paper.count, e.paper.root, e.paper.give, e.paper.take, e.paper.index], I64 n
  label : e.paper.label.length ≤ maxLen
  path : e.paper.path.length ≤ maxLen
  pathnums : ∀ n ∈ e.paper.path, I64 n
  clabel : e.cpost.label.length ≤ maxLen
  cnums : ∀ n ∈ [e.cpost.frm, e.cpost.to, e.cpost.cls, e.cpost.acc, e.due, e.amount], I64 n
def RShort (r : Rec) : Prop := r.label.length ≤ 40 ∧ r.contents.length ≤ 50 ∧ ∀ s ∈ r.contents, s.length ≤ 40
def LShort (e : Log) : Prop := e.text.length ≤ 4000 ∧ e.post.label.length ≤ 100 ∧ RShort e.rcd ∧ e.paper.sl.length ≤ 100 ∧ e.paper.label.length ≤ 100 ∧ e.paper.path.length ≤ 60 ∧ e.cpost.label.length ≤ 100
/-- It answers whether, and where it says yes it is so. -/
def Says (P : Prop) (w : World) (e : Ending) (w' : World) : Prop := ∃ b : Bool, e = .returned (.bool b) ∧ (b = true → P) ∧ Below w.heap.size w w'
set_option maxHeartbeats 1000000 in
set_option maxRecDepth 100000 in
theorem rshort_any (r : Rec) (A : Option Addr) (c : Nat) (w : World) (hA : Rd w A (r.contents.map sV)) (hl : r.contents.length ≤ maxLen) (hl2 : r.label.length ≤ maxLen) (hl3 : ∀ s ∈ r.contents, s.length ≤ maxLen) :
    Calls Try.prog 26 #[.agg #[iV r.scanner, iV r.number, iV r.kind, iV r.time, sV r.label, .slice A r.contents.length c]] w (Says (RShort r) w) := by
  have HA := Lib.hid hA; clear hA
  have HL3 := Lib.hid hl3; clear hl3
  unfold maxLen at hl hl2
  have hb2 : Hid (Below w.heap.size w (w.alloc (.cells #[iV r.scanner, iV r.number, iV r.kind, iV r.time, sV r.label, .slice A r.contents.length c] 26))) := (Below.refl _ w).alloc (Nat.le_refl _) _
  by_cases h1 : 40 < r.label.length
  · have h1' : (40 : Int) < (r.label.length : Int) := by omega
    go_enter Try.func26, Try.ntmps26
    go_wp2
    go_ret
    exact ⟨false, rfl, fun h => (by cases h), hb2.out⟩
  by_cases h2 : 50 < r.contents.length
  · have h1' : ¬ (40 : Int) < (r.label.length : Int) := by omega
    have h2' : (50 : Int) < (r.contents.length : Int) := by omega
    go_enter Try.func26, Try.ntmps26
    go_wp2
    go_ret
    exact ⟨false, rfl, fun h => (by cases h), hb2.out⟩
  have h1' : ¬ (40 : Int) < (r.label.length : Int) := by omega
  have h2' : ¬ (50 : Int) < (r.contents.length : Int) := by omega
  have H12 : Hid (r.label.length ≤ 40 ∧ r.contents.length ≤ 50) := by exact ⟨by omega, by omega⟩
  clear h1 h2
  go_enter Try.func26, Try.ntmps26
  go_wp2
  go_loop [3] (fun i => ∃ k : Nat, k ≤ r.contents.length ∧ i = iV k ∧ Hid (∀ s ∈ r.contents.take k, s.length ≤ 40)) (fun i => r.contents.length - (intOf i).toNat)
  case atStart => exact ⟨0, Nat.zero_le _, rfl, fun s hs => by simp at hs⟩
  case round =>
    obtain ⟨k, hk, rfl, HK⟩ := hrel
    by_cases hlt : k < r.contents.length
    · obtain ⟨b1, o1, rfl, hb1, hc1⟩ := (HA.out.below hb2.out).get (i := k) (by simpa using hlt)
      have k1 : (w.alloc (.cells #[iV r.scanner, iV r.number, iV r.kind, iV r.time, sV r.label, .slice (some ⟨b1, o1, none⟩) r.contents.length c] 26)).cell? ⟨b1, o1 + k, none⟩ = some (sV r.contents[k]) := hc1 k _ (by rw [List.getElem?_map, List.getElem?_eq_getElem hlt]; rfl)
      have hm := HL3.out r.contents[k] (List.getElem_mem _)
      unfold maxLen at hm
      clear hc1
      have HT : Hid (r.contents.take (k + 1) = r.contents.take k ++ [r.contents[k]]) := List.take_succ_eq_append_getElem hlt
      obtain ⟨x, hx⟩ : ∃ x, x = r.contents[k] := ⟨_, rfl⟩
      rw [← hx] at k1 hm HT
      clear hx
      by_cases hx : 40 < x.length
      · have hx' : (40 : Int) < (x.length : Int) := by omega
        go_wp2
        go_ret
        exact ⟨false, rfl, fun h => (by cases h), hb2.out⟩
      · have hx' : ¬ (40 : Int) < (x.length : Int) := by omega
        go_wp2
        go_round
        case rel =>
          refine ⟨k + 1, by omega, by go_num, ?_⟩
          show ∀ s ∈ _, _
          rw [HT.out]
          intro s hs
          rcases List.mem_append.1 hs with hs | hs
          · exact HK.out s hs
          · rw [List.mem_singleton.1 hs]; omega
        case measure => simp [intOf]; omega
    · obtain rfl : k = r.contents.length := by omega
      go_wp2
      go_ret
      refine ⟨true, rfl, fun _ => ⟨H12.out.1, H12.out.2, ?_⟩, hb2.out⟩
      have := HK.out
      rwa [List.take_length] at this
set_option maxHeartbeats 4000000 in
set_option maxRecDepth 100000 in
theorem short_any (e : Log) (AC AP : Option Addr) (c1 c2 : Nat) (w : World) (hA : Rd w AC (e.rcd.contents.map sV)) (hok : Log.In e) :
    Calls Try.prog 11 #[.agg (logCells e AC c1 AP c2)] w (Says (LShort e) w) := by
  have hb2 : Hid (Below w.heap.size w (w.alloc (.cells (logCells e AC c1 AP c2) 37))) := (Below.refl _ w).alloc (Nat.le_refl _) _
  have CR : Hid (∀ W, Below w.heap.size w W → Calls Try.prog 26 #[.agg #[iV e.rcd.scanner, iV e.rcd.number, iV e.rcd.kind, iV e.rcd.time, sV e.rcd.label, .slice AC e.rcd.contents.length c1]] W (Says (RShort e.rcd) W)) := fun W hW => rshort_any e.rcd AC c1 W (hA.below hW) hok.contents hok.rlabel hok.each
  have l1 : e.text.length ≤ 9223372036854775807 := by have := hok.text; unfold maxLen at this; omega
  have l2 : e.post.label.length ≤ 9223372036854775807 := by have := hok.plabel; unfold maxLen at this; omega
  have l3 : e.paper.sl.length ≤ 9223372036854775807 := by have := hok.sl; unfold maxLen at this; omega
  have l4 : e.paper.label.length ≤ 9223372036854775807 := by have := hok.label; unfold maxLen at this; omega
  have l5 : e.paper.path.length ≤ 9223372036854775807 := by have := hok.path; unfold maxLen at this; omega
  have l6 : e.cpost.label.length ≤ 9223372036854775807 := by have := hok.clabel; unfold maxLen at this; omega
  clear hA hok
  have x2 : (logCells e AC c1 AP c2)[2]? = some (sV e.text) := rfl
  have x3 : (logCells e AC c1 AP c2)[3]? = some (sV e.post.label) := rfl
  have x8 : (logCells e AC c1 AP c2)[8]? = some (iV e.rcd.scanner) := rfl
  have x9 : (logCells e AC c1 AP c2)[9]? = some (iV e.rcd.number) := rfl
  have x10 : (logCells e AC c1 AP c2)[10]? = some (iV e.rcd.kind) := rfl
  have x11 : (logCells e AC c1 AP c2)[11]? = some (iV e.rcd.time) := rfl
  have x12 : (logCells e AC c1 AP c2)[12]? = some (sV e.rcd.label) := rfl
  have x13 : (logCells e AC c1 AP c2)[13]? = some (.slice AC e.rcd.contents.length c1) := rfl
  have x14 : (logCells e AC c1 AP c2)[14]? = some (sV e.paper.sl) := rfl
  have x22 : (logCells e AC c1 AP c2)[22]? = some (sV e.paper.label) := rfl
  have x24 : (logCells e AC c1 AP c2)[24]? = some (.slice AP e.paper.path.length c2) := rfl
  have x25 : (logCells e AC c1 AP c2)[25]? = some (sV e.cpost.label) := rfl
  go_enter Try.func11, Try.ntmps11
  go_wp2_with fail
  · refine (CR.out _ hb2.out).mono ?_
    rintro e1 w1 ⟨b, rfl, hP, hb1⟩
    have HP := Lib.hid hP; clear hP
    have hb3 : Hid (Below w.heap.size w w1) := hb2.out.trans (hb1.mono (by simp))
    have r1 : Hid (w1.heap[w.heap.size]? = some (.cells (logCells e AC c1 AP c2) 37 (0, 0))) := (hb1.block _ (by simp)).trans (heap_alloc_new _ _)
    clear hb1 hb2 CR x2 x3 x8 x9 x10 x11 x12 x13 x14 x22 x24 x25
    have p14 : w1.cell? ⟨w.heap.size, 14, none⟩ = some (sV e.paper.sl) := cell_of_row w1 _ 14 _ _ _ r1.out
    have p22 : w1.cell? ⟨w.heap.size, 22, none⟩ = some (sV e.paper.label) := cell_of_row w1 _ 22 _ _ _ r1.out
    have p24 : w1.cell? ⟨w.heap.size, 24, none⟩ = some (.slice AP e.paper.path.length c2) := cell_of_row w1 _ 24 _ _ _ r1.out
    have p25 : w1.cell? ⟨w.heap.size, 25, none⟩ = some (sV e.cpost.label) := cell_of_row w1 _ 25 _ _ _ r1.out
    cases b with
    | false =>
      go_wp2
      go_ret
      exact ⟨false, rfl, fun h => (by cases h), hb3.out⟩
    | true =>
      go_wp2
      all_goals
        go_ret
        first
          | exact ⟨false, rfl, fun h => (by cases h), hb3.out⟩
          | exact ⟨_, rfl, fun h => ⟨by omega, by omega, (by first | exact HP.out rfl | exact HP.out trivial), by omega, by omega, by omega, (by first | omega | (simp at h; omega))⟩, hb3.out⟩
  all_goals
    go_ret
    exact ⟨false, rfl, fun h => (by cases h), hb2.out⟩
end Go.Proofs.Ytoaembpakmpolaa
