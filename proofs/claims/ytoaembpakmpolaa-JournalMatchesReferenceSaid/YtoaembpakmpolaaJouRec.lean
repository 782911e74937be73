/-
  The walk over journal.Records. (The region of the loop's body is written by a program: wip/jou/gen_rec.py.)
-/
import Derived.Test.YtoaembpakmpolaaJouApp
import Derived.Test.YtoaembpakmpolaaRound
namespace Go.Proofs.Ytoaembpakmpolaa
open Go.RowKit Jou Go.Shelf
attribute [local go_sem] ba_get ba_extract ba_append Oper.semAt_some

theorem slInfo : (Try.prog.info? 38).map (fun i => (i.zero, i.size, i.bytes)) = some (some (.slice none 0 0), 1, 24) := by kernel_rfl
/-- Rows of other types do not share a block. -/
theorem own_apart {W : World} {b1 b2 n1 n2 : Nat} {e1 e2 : TypeId} {v1 v2 : Value} {x1 x2 : List Value} (h1 : W.ownsRow b1 e1 1 v1 n1 x1) (h2 : W.ownsRow b2 e2 1 v2 n2 x2) (he : e1 ≠ e2) : v1.ownBlock = none ∨ v1.ownBlock ≠ v2.ownBlock := by
  rcases h1.2 with ⟨rfl, _⟩ | ⟨g, c, cur, rfl, _, hg, _⟩
  · exact .inl rfl
  · rcases h2.2 with ⟨rfl, _⟩ | ⟨g2, c2, cur2, rfl, _, hg2, _⟩
    · exact .inr (by simp [Value.ownBlock])
    · refine .inr ?_
      intro h
      simp [Value.ownBlock] at h
      subst h
      rw [hg] at hg2
      cases hg2
      exact he rfl
/-- The list of records that is being made, and the count of bytes. -/
def Lst (w W : World) (rows : List Sl) (A : Option Addr) (c m : Nat) : Prop :=
  W.heap[w.heap.size]? = some (.cells #[.slice A rows.length c] 46 (0, 0)) ∧ W.heap[w.heap.size + 1]? = some (.cells #[iV m] 3 (0, 0)) ∧
    W.ownsRow (w.heap.size + 5) 38 1 (.slice A rows.length c) rows.length (rows.map slV) ∧ (∀ r ∈ rows, W.ownsRow (w.heap.size + 5) 5 1 (slV r) r.2.2.length (r.2.2.map bV)) ∧ Below w.heap.size w W
theorem own_grown {W W' : World} {base n r : Nat} {e : TypeId} {v : Value} {xs : List Value} (h : W.ownsRow base e 1 v n xs) (hg : W.grownBy W' (some r)) (hr : r < base) : W'.ownsRow base e 1 v n xs :=
  h.kept hg (by
    cases hv : v.ownBlock with
    | none => exact .inl rfl
    | some g => have := (h.lt g hv).1; exact .inr (by simp; omega))
theorem own_drewN {W : World} {base n : Nat} {e : TypeId} {v : Value} {xs : List Value} (h : W.ownsRow base e 1 v n xs) (k : Nat) : (W.drewN k).ownsRow base e 1 v n xs := h
theorem Lst.grown {w W W' : World} {rows : List Sl} {A : Option Addr} {c m r : Nat} (h : Lst w W rows A c m) (hg : W.grownBy W' (some r)) (hr : w.heap.size + 2 ≤ r ∧ r < w.heap.size + 5) : Lst w W' rows A c m :=
  ⟨(hg.block _ (block_lt h.1) (by simp; omega)).trans h.1, (hg.block _ (block_lt h.2.1) (by simp; omega)).trans h.2.1, own_grown h.2.2.1 hg (by omega), fun r hr' => own_grown (h.2.2.2.1 r hr') hg (by omega), h.2.2.2.2.trans (below_of_g hg h.2.2.2.2.size (by omega))⟩
theorem Lst.set1 {w W : World} {rows : List Sl} {A : Option Addr} {c m : Nat} (h : Lst w W rows A c m) (k : Nat) : Lst w (W.setCell ⟨w.heap.size + 1, 0, none⟩ (iV k)) rows A c k :=
  ⟨row_other h.1 (by omega) _ _, row_set h.2.1 0 _, own_set h.2.2.1 (by omega) _ _, fun r hr => own_set (h.2.2.2.1 r hr) (by omega) _ _, h.2.2.2.2.setCell (by simp) _⟩
/-- A record more. -/
theorem Lst.more {w W w7 w8 : World} {rows : List Sl} {A : Option Addr} {c m : Nat} (h : Lst w W rows A c m) (hz : w.heap.size + 5 ≤ W.heap.size) {A7 A8 : Option Addr} {c7 c8 : Nat} {l : List UInt8}
    (hb7 : Below W.heap.size W w7) (ho7 : w7.ownsRow W.heap.size 5 1 (.slice A7 l.length c7) l.length (l.map bV))
    (ho8 : w8.ownsRow (w.heap.size + 5) 38 1 (.slice A8 (rows.length + 1) c8) (rows.length + 1) (rows.map slV ++ [.slice A7 l.length c7])) {o : Obj} (hg8 : (w7.alloc o).grownBy w8 (Value.slice A rows.length c).ownBlock) :
    Lst w (w8.setCell ⟨w.heap.size, 0, none⟩ (.slice A8 (rows.length + 1) c8)) (rows ++ [(A7, c7, l)]) A8 c8 m := by
  have hown7 := (own_below h.2.2.1 hb7).alloc o
  have hlt := block_lt h.2.1
  have hz7 := hb7.size
  have hk8 : ∀ i, i < w.heap.size + 5 → i < W.heap.size → w8.heap[i]? = W.heap[i]? := fun i hi hi' => (hg8.block i (by simp; omega) (fun e => by have := (hown7.lt i e.symm).1; omega)).trans ((Below.heap_alloc _ _ _ (by omega)).trans (hb7.block i hi'))
  have hrow : ∀ (r : Sl), w7.ownsRow (w.heap.size + 5) 5 1 (slV r) r.2.2.length (r.2.2.map bV) → (w8.setCell ⟨w.heap.size, 0, none⟩ (.slice A8 (rows.length + 1) c8)).ownsRow (w.heap.size + 5) 5 1 (slV r) r.2.2.length (r.2.2.map bV) := fun r hr =>
    own_set ((hr.alloc o).kept hg8 (own_apart (hr.alloc o) hown7 (by decide))) (by omega) _ _
  refine ⟨?_, row_other ((hk8 _ (by omega) hlt).trans h.2.1) (by omega) _ _, ?_, ?_, ?_⟩
  · have := row_set ((hk8 _ (by omega) (block_lt h.1)).trans h.1) 0 (.slice A8 (rows.length + 1) c8)
    rw [List.length_append]
    exact this
  · rw [List.length_append, List.map_append]
    exact own_set ho8 (by omega) _ _
  · intro r hr
    rcases List.mem_append.1 hr with hr | hr
    · exact hrow r (own_below (h.2.2.2.1 r hr) hb7)
    · rw [List.mem_singleton.1 hr]
      exact hrow (A7, c7, l) (own_base ho7 hz)
  · have hsz := h.2.2.2.2.size
    have h8 : Below w.heap.size w w8 := ⟨hg8.os.trans (hb7.os.trans h.2.2.2.2.os), hg8.tape.trans (hb7.tape.trans h.2.2.2.2.tape), hg8.output.trans (hb7.output.trans h.2.2.2.2.output), Nat.le_trans (by omega) (Nat.le_trans (by simp : w7.heap.size ≤ (w7.alloc o).heap.size) hg8.size), fun i hi => (hk8 i (by omega) (by omega)).trans (h.2.2.2.2.block i hi)⟩
    exact h8.setCell (by simp) _
/-- What the region in the loop's body leaves as it was. -/
def Keep8 (w W w8 : World) : Prop := (∀ i, i < w.heap.size + 5 → w8.heap[i]? = W.heap[i]?) ∧ W.heap.size ≤ w8.heap.size
theorem keep8 {w W w7 w8 : World} {rows : List Sl} {A : Option Addr} {c m : Nat} (h : Lst w W rows A c m) (hz : w.heap.size + 5 ≤ W.heap.size) (hb7 : Below W.heap.size W w7) {o : Obj} (hg8 : (w7.alloc o).grownBy w8 (Value.slice A rows.length c).ownBlock) : Keep8 w W w8 := by
  have hown7 := (own_below h.2.2.1 hb7).alloc o
  have hz7 := hb7.size
  have hz8 := hg8.size
  simp at hz8
  exact ⟨fun i hi => (hg8.block i (by simp; omega) (fun e => by have := (hown7.lt i e.symm).1; omega)).trans ((Below.heap_alloc _ _ _ (by omega)).trans (hb7.block i (by omega))), by omega⟩
/-- What Records leaves. -/
def RecRes (w : World) (j : List UInt8) (e : Ending) (w' : World) : Prop :=
  ∃ (rows : List Sl) (A : Option Addr) (c : Nat), rows.map (·.2.2) = recs j ∧ e = .returned (.tuple #[.slice A rows.length c, iV (offs (recs j) (recs j).length)]) ∧ w'.ownsRow w.heap.size 38 1 (.slice A rows.length c) rows.length (rows.map slV) ∧
    (∀ r ∈ rows, w'.ownsRow w.heap.size 5 1 (slV r) r.2.2.length (r.2.2.map bV)) ∧ Below w.heap.size w w'
set_option maxHeartbeats 8000000 in
set_option maxRecDepth 100000 in
theorem records_all (j : List UInt8) (A : Option Addr) (c : Nat) (w : World) (hA : Rd w A (j.map bV)) (hAl : Low w.heap.size A) (hc : j.length ≤ c) (hm : c ≤ maxLen) (hj : j.length ≤ 90000) :
    Calls Try.prog 16 #[.slice A j.length c] w (RecRes w j) := by
  have HA := Lib.hid hA; clear hA
  have HAL := Lib.hid hAl; clear hAl
  have HC := Lib.hid hc
  have HM := Lib.hid hm
  unfold maxLen at hm
  have hm0 := recs_le j
  have hW : Hid (Lst w (((w.alloc (.cells #[.slice none 0 0] 46)).alloc (.cells #[iV 0] 3)).alloc (.cells #[.slice A j.length c] 38)) [] none 0 0) := by
    have h1 := heap_alloc_new (w.alloc (.cells #[.slice none 0 0] 46)) (.cells #[iV 0] 3)
    rw [World.size_alloc] at h1
    exact ⟨(Below.heap_alloc _ _ _ (by simp; omega)).trans ((Below.heap_alloc _ _ _ (by simp)).trans (heap_alloc_new _ _)), (Below.heap_alloc _ _ _ (by simp)).trans h1, World.ownsRow_nil _ _ _ _, fun r hr => (by cases hr), (((Below.refl _ w).alloc (Nat.le_refl _) _).alloc (by simp) _).alloc (by simp; omega) _⟩
  have hQ : Hid ((((w.alloc (.cells #[.slice none 0 0] 46)).alloc (.cells #[iV 0] 3)).alloc (.cells #[.slice A j.length c] 38)).heap[w.heap.size + 2]? = some (.cells #[.slice A j.length c] 38 (0, 0))) := by
    have h1 := heap_alloc_new ((w.alloc (.cells #[.slice none 0 0] 46)).alloc (.cells #[iV 0] 3)) (.cells #[.slice A j.length c] 38)
    simp only [World.size_alloc] at h1
    exact h1
  obtain ⟨i0, hi0, hz0, hz1, hz2⟩ := info_parts slInfo
  refine calls_of_marks Try.func16 rfl ?_
  simp only [Try.ntmps16, List.size_toArray, List.length_cons, List.length_nil, Nat.reduceAdd, Nat.reduceSub, Array.replicate_succ, Array.replicate_zero, List.push_toArray, List.append_toArray, List.nil_append, List.cons_append]
  go_wp2_with (go_at_call 36; refine (frames_any _ _ _ _).mono ?_; rintro e w' ⟨rfl, rfl⟩)
  refine wp_seq (gf := 64) (lb := #[.pointer (some ⟨w.heap.size + 2, 0, none⟩)]) rfl (enters_of Try.func64 (by kernel_rfl) rfl)
    (frames_seq j A c (w.heap.size + 2) _ (HA.out.below hW.out.2.2.2.2) (HAL.out.mono (by omega)) HC.out HM.out hQ.out) (block_lt hQ.out) ?_ (fun k => rfl) (fun k W => Rd W A (j.map bV) ∧ ∃ (rows : List Sl) (A' : Option Addr) (c' : Nat), rows.map (·.2.2) = (recs j).take k ∧ Lst w W rows A' c' (offs (recs j) k)) ?_ ?_ ?a1 ?assign ?body ?done
  case assign =>
    intro l k W K hK
    gi_wp2
    exact hK
  · intro x hx
    simp only [World.size_alloc]
    rcases List.mem_cons.1 hx with rfl | hx
    · omega
    · cases A with
      | none => simp at hx
      | some a => simp at hx; have := HAL.out a rfl; omega
  · rintro k W W' r ⟨hrd, rows, A', c', hrows, h⟩ hg hr
    simp only [World.size_alloc] at hr
    exact ⟨hrd.same hg.size (fun a ha hl => hg.block _ hl (by have := HAL.out a ha; simp; omega)), rows, A', c', hrows, h.grown hg (by omega)⟩
  · exact ⟨HA.out.below hW.out.2.2.2.2, [], none, 0, by simp, by rw [offs_zero]; exact hW.out⟩
  case body =>
    rintro l k W hk ⟨hrd, rows, A', c', hrows, hI⟩ hsz
    simp only [World.size_alloc] at hsz
    have HSZ : Hid (w.heap.size + 5 ≤ W.heap.size) := by show _ ≤ _; omega
    clear hsz
    have hlen : rows.length = k := by have := congrArg List.length hrows; simpa [Nat.min_eq_left (Nat.le_of_lt hk)] using this
    subst hlen
    have HI := Lib.hid hI
    have HROWS := Lib.hid hrows; clear hrows
    have n0 : W.cell? ⟨w.heap.size, 0, none⟩ = some (.slice A' rows.length c') := cell_of_row _ _ 0 _ _ _ hI.1
    have n1 : W.frozen? ⟨w.heap.size, 0, none⟩ = false := frozen_row hI.1 0
    have n2 : W.cell? ⟨w.heap.size + 1, 0, none⟩ = some (iV (offs (recs j) rows.length)) := cell_of_row _ _ 0 _ _ _ hI.2.1
    have n3 : W.frozen? ⟨w.heap.size + 1, 0, none⟩ = false := frozen_row hI.2.1 0
    clear hI
    have hfr := framed_take (recs_at j rows.length hk)
    obtain ⟨b, off, rfl⟩ := addr_of hrd (by rw [List.length_drop] at hfr; omega)
    have hrv : recV j (some ⟨b, off, none⟩) c rows.length = .slice (some ⟨b, off + (offs (recs j) rows.length + 8), none⟩) (recs j)[rows.length].length (c - (offs (recs j) rows.length + 8)) := by
      rw [recV, List.getElem?_eq_getElem hk]
      simp [add_at]
    have hRd : Hid (Rd W (some ⟨b, off + (offs (recs j) rows.length + 8), none⟩) ((recs j)[rows.length].map bV)) := by
      have h1 := (hrd.drop (offs (recs j) rows.length + 8)).take (recs j)[rows.length].length
      have e : ((j.drop (offs (recs j) rows.length)).drop 8).take (recs j)[rows.length].length = (recs j)[rows.length] := hfr.1.symm
      rw [List.drop_drop] at e
      have e2 : ((j.map bV).drop (offs (recs j) rows.length + 8)).take (recs j)[rows.length].length = (recs j)[rows.length].map bV := by
        conv => rhs; rw [← e]
        rw [List.map_take, List.map_drop]
      rw [e2] at h1
      exact h1
    rw [hrv]
    clear hrv
    have ho := offs_succ (recs j) rows.length hk
    have hle := offs_le j (rows.length + 1) hk
    rw [ho] at hle
    have HO := Lib.hid ho; clear ho
    have HT : Hid ((recs j).take (rows.length + 1) = (recs j).take rows.length ++ [(recs j)[rows.length]]) := List.take_succ_eq_append_getElem hk
    obtain ⟨rc, hrc⟩ : ∃ rc, rc = (recs j)[rows.length] := ⟨_, rfl⟩
    rw [← hrc] at HO hle HT hRd hfr ⊢
    obtain ⟨-, -, -, hr3⟩ := hfr
    clear hrc
    have CL : Hid (∀ W', Below W.heap.size W W' → Calls Try.prog 40 #[.slice (some ⟨b, off + (offs (recs j) rows.length + 8), none⟩) rc.length (c - (offs (recs j) rows.length + 8))] W' fun e w' => ∃ A7 c7, e = .returned (.slice A7 rc.length c7) ∧ w'.ownsRow W'.heap.size 5 1 (.slice A7 rc.length c7) rc.length (rc.map bV) ∧ Below W'.heap.size W' w') := fun W' hb' => clone_any rc b _ _ W' (hRd.out.below hb') (by omega)
    have hbl : b < w.heap.size := HAL.out _ rfl
    have HRD := Lib.hid hrd; clear hrd
    have FIN : Hid (∀ (A7 : Option Addr) (c7 : Nat) (A8 : Option Addr) (c8 : Nat) (w8 : World), Lst w (w8.setCell ⟨w.heap.size, 0, none⟩ (.slice A8 (rows.length + 1) c8)) (rows ++ [(A7, c7, rc)]) A8 c8 (offs (recs j) rows.length) → Keep8 w W w8 →
        W.heap.size ≤ ((w8.setCell ⟨w.heap.size, 0, none⟩ (.slice A8 (rows.length + 1) c8)).setCell ⟨w.heap.size + 1, 0, none⟩ (.int .i64 ((offs (recs j) rows.length : Int) + (8 + (rc.length : Int))))).heap.size ∧
        (∀ x, x ≠ w.heap.size → x ≠ w.heap.size + 1 → x < w.heap.size + 5 → ((w8.setCell ⟨w.heap.size, 0, none⟩ (.slice A8 (rows.length + 1) c8)).setCell ⟨w.heap.size + 1, 0, none⟩ (.int .i64 ((offs (recs j) rows.length : Int) + (8 + (rc.length : Int))))).heap[x]? = W.heap[x]?) ∧
        (Rd ((w8.setCell ⟨w.heap.size, 0, none⟩ (.slice A8 (rows.length + 1) c8)).setCell ⟨w.heap.size + 1, 0, none⟩ (.int .i64 ((offs (recs j) rows.length : Int) + (8 + (rc.length : Int))))) (some ⟨b, off, none⟩) (j.map bV) ∧
          ∃ (rows' : List Sl) (A' : Option Addr) (c' : Nat), rows'.map (·.2.2) = (recs j).take (rows.length + 1) ∧ Lst w ((w8.setCell ⟨w.heap.size, 0, none⟩ (.slice A8 (rows.length + 1) c8)).setCell ⟨w.heap.size + 1, 0, none⟩ (.int .i64 ((offs (recs j) rows.length : Int) + (8 + (rc.length : Int))))) rows' A' c' (offs (recs j) (rows.length + 1)))) := by
      intro A7 c7 A8 c8 w8 hL hK8
      have e2 : Value.int .i64 ((offs (recs j) rows.length : Int) + (8 + (rc.length : Int))) = iV ((offs (recs j) rows.length + (8 + rc.length) : Nat) : Int) := by go_num
      rw [e2, HO.out, HT.out]
      have hkk : ∀ x, x ≠ w.heap.size → x ≠ w.heap.size + 1 → x < w.heap.size + 5 → ((w8.setCell ⟨w.heap.size, 0, none⟩ (.slice A8 (rows.length + 1) c8)).setCell ⟨w.heap.size + 1, 0, none⟩ (iV ((offs (recs j) rows.length + (8 + rc.length) : Nat) : Int))).heap[x]? = W.heap[x]? := fun x h1 h2 h3 =>
        (Below.heap_setCell _ _ _ _ (by show x ≠ _; exact h2)).trans ((Below.heap_setCell _ _ _ _ (by show x ≠ _; exact h1)).trans (hK8.1 x h3))
      refine ⟨by simp [World.setCell]; exact hK8.2, hkk, HRD.out.same (by simp [World.setCell]; exact hK8.2) (fun a ha _ => by cases ha; exact hkk b (by omega) (by omega) (by omega)), _, A8, c8, ?_, hL.set1 _⟩
      rw [List.map_append, HROWS.out]
      rfl
    gi_wp2
    refine wp_region_round (by kernel_rfl) ?_
    refine wpAnyIn_ready (rs := [0, 1]) (by kernel_rfl) (by simp) ?_
    refine ready_round rfl (by rfl) (fun K hK => ?_) ?_
    · go_simp
      refine hK _ _ ?_
      clear hK K
      refine wpAnyIn_ready (rs := [1]) (by kernel_rfl) (by simp) ?_
      refine ready_round rfl (by rfl) (fun K hK => ?_) AllReadyIn.nil
      go_simp
      refine hK _ _ ?_
      clear hK K
      refine wpAnyIn_ready (rs := [2]) (by kernel_rfl) (by simp) ?_
      refine ready_round rfl (by rfl) (fun K hK => ?_) AllReadyIn.nil
      go_simp
      go_at_call 40
      refine (CL.out _ (Below.refl _ _).drew).mono ?_
      rintro e w7 ⟨A7, c7, rfl, hown7, hb7⟩
      have HB7 : Hid (Below W.heap.size W w7) := bdr hb7
      have HO7 : Hid (w7.ownsRow W.heap.size 5 1 (.slice A7 rc.length c7) rc.length (rc.map bV)) := hown7
      clear hown7 hb7
      have hlt7 : w.heap.size < w7.heap.size := Nat.lt_of_lt_of_le (block_lt HI.out.1) HB7.out.size
      have t7 : w7.cell? ⟨w.heap.size, 0, none⟩ = some (.slice A' rows.length c') := (HB7.out.cell (p := ⟨w.heap.size, 0, none⟩) (block_lt HI.out.1)).trans n0
      have a7 : ∀ o, (w7.alloc o).cell? ⟨w.heap.size, 0, none⟩ = w7.cell? ⟨w.heap.size, 0, none⟩ := fun o => World.cell?_alloc_past _ _ _ hlt7
      refine hK _ _ ?_
      clear hK K
      refine wpAnyIn_ready (rs := [3]) (by kernel_rfl) (by simp) ?_
      refine ready_round rfl (by rfl) (fun K hK => ?_) AllReadyIn.nil
      go_simp
      refine hK _ _ ?_
      clear hK K
      refine wpAnyIn_ready (rs := [4]) (by kernel_rfl) (by simp) ?_
      refine ready_round rfl (by rfl) (fun K hK => ?_) AllReadyIn.nil
      refine step_app (by rfl) _ _ _ _ (by rfl) (w.heap.size + 5) 38 i0 _ 1 24 Try.underlying46 hi0 hz0 hz1 hz2 (by rfl) _ rows.length _ (by rfl) ((own_below HI.out.2.2.1 HB7.out).alloc _) _ (by rfl) 1 [.slice A7 rc.length c7] (src_rd Try.underlying46 (Rd.new w7 [.slice A7 rc.length c7] _) rfl (by simp [Value.oneCell'])) (by unfold maxLen; omega) (by omega) (by have := HB7.out.size; have := HSZ.out; simp; omega) ?_
      intro A8 c8 w8 hown8 hgrow8 hat8
      have HL : Hid (Lst w (w8.setCell ⟨w.heap.size, 0, none⟩ (.slice A8 (rows.length + 1) c8)) (rows ++ [(A7, c7, rc)]) A8 c8 (offs (recs j) rows.length)) := HI.out.more HSZ.out HB7.out HO7.out hown8 hgrow8
      have HK8 : Hid (Keep8 w W w8) := keep8 HI.out HSZ.out HB7.out hgrow8
      clear hown8 hgrow8 hat8
      have t8 : w8.cell? ⟨w.heap.size, 0, none⟩ = some (.slice A' rows.length c') := (World.cell?_of_block (a := ⟨w.heap.size, 0, none⟩) (HK8.out.1 w.heap.size (by omega))).trans n0
      have t8f : w8.frozen? ⟨w.heap.size, 0, none⟩ = false := (World.frozen?_of_block (a := ⟨w.heap.size, 0, none⟩) (HK8.out.1 w.heap.size (by omega))).trans n1
      have t9 : w8.cell? ⟨w.heap.size + 1, 0, none⟩ = some (iV (offs (recs j) rows.length)) := (World.cell?_of_block (a := ⟨w.heap.size + 1, 0, none⟩) (HK8.out.1 (w.heap.size + 1) (by omega))).trans n2
      have t9f : w8.frozen? ⟨w.heap.size + 1, 0, none⟩ = false := (World.frozen?_of_block (a := ⟨w.heap.size + 1, 0, none⟩) (HK8.out.1 (w.heap.size + 1) (by omega))).trans n3
      refine hK _ _ ?_
      clear hK K
      refine wpAnyIn_ready (rs := [5]) (by kernel_rfl) (by simp) ?_
      refine ready_round rfl (by rfl) (fun K hK => ?_) AllReadyIn.nil
      go_simp
      refine hK _ _ ?_
      clear hK K
      refine wpAnyIn_done (by kernel_rfl) ?_ _
      clear n0 n1 n2 n3
      gi_wp2
      obtain ⟨f1, f2, f3⟩ := FIN.out A7 c7 A8 c8 w8 HL.out HK8.out
      refine ⟨f1, fun x hx => ?_, f3⟩
      simp only [World.size_alloc, List.mem_cons, Option.map_some, Option.toList_some, List.not_mem_nil, or_false] at hx
      exact f2 x (by omega) (by omega) (by omega)
    refine ready_round rfl (by rfl) (fun K hK => ?_) AllReadyIn.nil
    go_simp
    refine hK _ _ ?_
    clear hK K
    refine wpAnyIn_ready (rs := [0, 2]) (by kernel_rfl) (by simp) ?_
    refine ready_round rfl (by rfl) (fun K hK => ?_) ?_
    · go_simp
      refine hK _ _ ?_
      clear hK K
      refine wpAnyIn_ready (rs := [2]) (by kernel_rfl) (by simp) ?_
      refine ready_round rfl (by rfl) (fun K hK => ?_) AllReadyIn.nil
      go_simp
      go_at_call 40
      refine (CL.out _ (Below.refl _ _).drew).mono ?_
      rintro e w7 ⟨A7, c7, rfl, hown7, hb7⟩
      have HB7 : Hid (Below W.heap.size W w7) := bdr hb7
      have HO7 : Hid (w7.ownsRow W.heap.size 5 1 (.slice A7 rc.length c7) rc.length (rc.map bV)) := hown7
      clear hown7 hb7
      have hlt7 : w.heap.size < w7.heap.size := Nat.lt_of_lt_of_le (block_lt HI.out.1) HB7.out.size
      have t7 : w7.cell? ⟨w.heap.size, 0, none⟩ = some (.slice A' rows.length c') := (HB7.out.cell (p := ⟨w.heap.size, 0, none⟩) (block_lt HI.out.1)).trans n0
      have a7 : ∀ o, (w7.alloc o).cell? ⟨w.heap.size, 0, none⟩ = w7.cell? ⟨w.heap.size, 0, none⟩ := fun o => World.cell?_alloc_past _ _ _ hlt7
      refine hK _ _ ?_
      clear hK K
      refine wpAnyIn_ready (rs := [3]) (by kernel_rfl) (by simp) ?_
      refine ready_round rfl (by rfl) (fun K hK => ?_) AllReadyIn.nil
      go_simp
      refine hK _ _ ?_
      clear hK K
      refine wpAnyIn_ready (rs := [4]) (by kernel_rfl) (by simp) ?_
      refine ready_round rfl (by rfl) (fun K hK => ?_) AllReadyIn.nil
      refine step_app (by rfl) _ _ _ _ (by rfl) (w.heap.size + 5) 38 i0 _ 1 24 Try.underlying46 hi0 hz0 hz1 hz2 (by rfl) _ rows.length _ (by rfl) ((own_below HI.out.2.2.1 HB7.out).alloc _) _ (by rfl) 1 [.slice A7 rc.length c7] (src_rd Try.underlying46 (Rd.new w7 [.slice A7 rc.length c7] _) rfl (by simp [Value.oneCell'])) (by unfold maxLen; omega) (by omega) (by have := HB7.out.size; have := HSZ.out; simp; omega) ?_
      intro A8 c8 w8 hown8 hgrow8 hat8
      have HL : Hid (Lst w (w8.setCell ⟨w.heap.size, 0, none⟩ (.slice A8 (rows.length + 1) c8)) (rows ++ [(A7, c7, rc)]) A8 c8 (offs (recs j) rows.length)) := HI.out.more HSZ.out HB7.out HO7.out hown8 hgrow8
      have HK8 : Hid (Keep8 w W w8) := keep8 HI.out HSZ.out HB7.out hgrow8
      clear hown8 hgrow8 hat8
      have t8 : w8.cell? ⟨w.heap.size, 0, none⟩ = some (.slice A' rows.length c') := (World.cell?_of_block (a := ⟨w.heap.size, 0, none⟩) (HK8.out.1 w.heap.size (by omega))).trans n0
      have t8f : w8.frozen? ⟨w.heap.size, 0, none⟩ = false := (World.frozen?_of_block (a := ⟨w.heap.size, 0, none⟩) (HK8.out.1 w.heap.size (by omega))).trans n1
      have t9 : w8.cell? ⟨w.heap.size + 1, 0, none⟩ = some (iV (offs (recs j) rows.length)) := (World.cell?_of_block (a := ⟨w.heap.size + 1, 0, none⟩) (HK8.out.1 (w.heap.size + 1) (by omega))).trans n2
      have t9f : w8.frozen? ⟨w.heap.size + 1, 0, none⟩ = false := (World.frozen?_of_block (a := ⟨w.heap.size + 1, 0, none⟩) (HK8.out.1 (w.heap.size + 1) (by omega))).trans n3
      refine hK _ _ ?_
      clear hK K
      refine wpAnyIn_ready (rs := [5]) (by kernel_rfl) (by simp) ?_
      refine ready_round rfl (by rfl) (fun K hK => ?_) AllReadyIn.nil
      go_simp
      refine hK _ _ ?_
      clear hK K
      refine wpAnyIn_done (by kernel_rfl) ?_ _
      clear n0 n1 n2 n3
      gi_wp2
      obtain ⟨f1, f2, f3⟩ := FIN.out A7 c7 A8 c8 w8 HL.out HK8.out
      refine ⟨f1, fun x hx => ?_, f3⟩
      simp only [World.size_alloc, List.mem_cons, Option.map_some, Option.toList_some, List.not_mem_nil, or_false] at hx
      exact f2 x (by omega) (by omega) (by omega)
    refine ready_round rfl (by rfl) (fun K hK => ?_) AllReadyIn.nil
    go_simp
    go_at_call 40
    refine (CL.out _ (Below.refl _ _).drew).mono ?_
    rintro e w7 ⟨A7, c7, rfl, hown7, hb7⟩
    have HB7 : Hid (Below W.heap.size W w7) := bdr hb7
    have HO7 : Hid (w7.ownsRow W.heap.size 5 1 (.slice A7 rc.length c7) rc.length (rc.map bV)) := hown7
    clear hown7 hb7
    have hlt7 : w.heap.size < w7.heap.size := Nat.lt_of_lt_of_le (block_lt HI.out.1) HB7.out.size
    have t7 : w7.cell? ⟨w.heap.size, 0, none⟩ = some (.slice A' rows.length c') := (HB7.out.cell (p := ⟨w.heap.size, 0, none⟩) (block_lt HI.out.1)).trans n0
    have a7 : ∀ o, (w7.alloc o).cell? ⟨w.heap.size, 0, none⟩ = w7.cell? ⟨w.heap.size, 0, none⟩ := fun o => World.cell?_alloc_past _ _ _ hlt7
    refine hK _ _ ?_
    clear hK K
    refine wpAnyIn_ready (rs := [0, 3]) (by kernel_rfl) (by simp) ?_
    refine ready_round rfl (by rfl) (fun K hK => ?_) ?_
    · go_simp
      refine hK _ _ ?_
      clear hK K
      refine wpAnyIn_ready (rs := [3]) (by kernel_rfl) (by simp) ?_
      refine ready_round rfl (by rfl) (fun K hK => ?_) AllReadyIn.nil
      go_simp
      refine hK _ _ ?_
      clear hK K
      refine wpAnyIn_ready (rs := [4]) (by kernel_rfl) (by simp) ?_
      refine ready_round rfl (by rfl) (fun K hK => ?_) AllReadyIn.nil
      refine step_app (by rfl) _ _ _ _ (by rfl) (w.heap.size + 5) 38 i0 _ 1 24 Try.underlying46 hi0 hz0 hz1 hz2 (by rfl) _ rows.length _ (by rfl) ((own_below HI.out.2.2.1 HB7.out).alloc _) _ (by rfl) 1 [.slice A7 rc.length c7] (src_rd Try.underlying46 (Rd.new w7 [.slice A7 rc.length c7] _) rfl (by simp [Value.oneCell'])) (by unfold maxLen; omega) (by omega) (by have := HB7.out.size; have := HSZ.out; simp; omega) ?_
      intro A8 c8 w8 hown8 hgrow8 hat8
      have HL : Hid (Lst w (w8.setCell ⟨w.heap.size, 0, none⟩ (.slice A8 (rows.length + 1) c8)) (rows ++ [(A7, c7, rc)]) A8 c8 (offs (recs j) rows.length)) := HI.out.more HSZ.out HB7.out HO7.out hown8 hgrow8
      have HK8 : Hid (Keep8 w W w8) := keep8 HI.out HSZ.out HB7.out hgrow8
      clear hown8 hgrow8 hat8
      have t8 : w8.cell? ⟨w.heap.size, 0, none⟩ = some (.slice A' rows.length c') := (World.cell?_of_block (a := ⟨w.heap.size, 0, none⟩) (HK8.out.1 w.heap.size (by omega))).trans n0
      have t8f : w8.frozen? ⟨w.heap.size, 0, none⟩ = false := (World.frozen?_of_block (a := ⟨w.heap.size, 0, none⟩) (HK8.out.1 w.heap.size (by omega))).trans n1
      have t9 : w8.cell? ⟨w.heap.size + 1, 0, none⟩ = some (iV (offs (recs j) rows.length)) := (World.cell?_of_block (a := ⟨w.heap.size + 1, 0, none⟩) (HK8.out.1 (w.heap.size + 1) (by omega))).trans n2
      have t9f : w8.frozen? ⟨w.heap.size + 1, 0, none⟩ = false := (World.frozen?_of_block (a := ⟨w.heap.size + 1, 0, none⟩) (HK8.out.1 (w.heap.size + 1) (by omega))).trans n3
      refine hK _ _ ?_
      clear hK K
      refine wpAnyIn_ready (rs := [5]) (by kernel_rfl) (by simp) ?_
      refine ready_round rfl (by rfl) (fun K hK => ?_) AllReadyIn.nil
      go_simp
      refine hK _ _ ?_
      clear hK K
      refine wpAnyIn_done (by kernel_rfl) ?_ _
      clear n0 n1 n2 n3
      gi_wp2
      obtain ⟨f1, f2, f3⟩ := FIN.out A7 c7 A8 c8 w8 HL.out HK8.out
      refine ⟨f1, fun x hx => ?_, f3⟩
      simp only [World.size_alloc, List.mem_cons, Option.map_some, Option.toList_some, List.not_mem_nil, or_false] at hx
      exact f2 x (by omega) (by omega) (by omega)
    refine ready_round rfl (by rfl) (fun K hK => ?_) AllReadyIn.nil
    go_simp
    refine hK _ _ ?_
    clear hK K
    refine wpAnyIn_ready (rs := [0]) (by kernel_rfl) (by simp) ?_
    refine ready_round rfl (by rfl) (fun K hK => ?_) AllReadyIn.nil
    go_simp
    refine hK _ _ ?_
    clear hK K
    refine wpAnyIn_ready (rs := [4]) (by kernel_rfl) (by simp) ?_
    refine ready_round rfl (by rfl) (fun K hK => ?_) AllReadyIn.nil
    refine step_app (by rfl) _ _ _ _ (by rfl) (w.heap.size + 5) 38 i0 _ 1 24 Try.underlying46 hi0 hz0 hz1 hz2 (by rfl) _ rows.length _ (by rfl) ((own_below HI.out.2.2.1 HB7.out).alloc _) _ (by rfl) 1 [.slice A7 rc.length c7] (src_rd Try.underlying46 (Rd.new w7 [.slice A7 rc.length c7] _) rfl (by simp [Value.oneCell'])) (by unfold maxLen; omega) (by omega) (by have := HB7.out.size; have := HSZ.out; simp; omega) ?_
    intro A8 c8 w8 hown8 hgrow8 hat8
    have HL : Hid (Lst w (w8.setCell ⟨w.heap.size, 0, none⟩ (.slice A8 (rows.length + 1) c8)) (rows ++ [(A7, c7, rc)]) A8 c8 (offs (recs j) rows.length)) := HI.out.more HSZ.out HB7.out HO7.out hown8 hgrow8
    have HK8 : Hid (Keep8 w W w8) := keep8 HI.out HSZ.out HB7.out hgrow8
    clear hown8 hgrow8 hat8
    have t8 : w8.cell? ⟨w.heap.size, 0, none⟩ = some (.slice A' rows.length c') := (World.cell?_of_block (a := ⟨w.heap.size, 0, none⟩) (HK8.out.1 w.heap.size (by omega))).trans n0
    have t8f : w8.frozen? ⟨w.heap.size, 0, none⟩ = false := (World.frozen?_of_block (a := ⟨w.heap.size, 0, none⟩) (HK8.out.1 w.heap.size (by omega))).trans n1
    have t9 : w8.cell? ⟨w.heap.size + 1, 0, none⟩ = some (iV (offs (recs j) rows.length)) := (World.cell?_of_block (a := ⟨w.heap.size + 1, 0, none⟩) (HK8.out.1 (w.heap.size + 1) (by omega))).trans n2
    have t9f : w8.frozen? ⟨w.heap.size + 1, 0, none⟩ = false := (World.frozen?_of_block (a := ⟨w.heap.size + 1, 0, none⟩) (HK8.out.1 (w.heap.size + 1) (by omega))).trans n3
    refine hK _ _ ?_
    clear hK K
    refine wpAnyIn_ready (rs := [5]) (by kernel_rfl) (by simp) ?_
    refine ready_round rfl (by rfl) (fun K hK => ?_) AllReadyIn.nil
    go_simp
    refine hK _ _ ?_
    clear hK K
    refine wpAnyIn_done (by kernel_rfl) ?_ _
    clear n0 n1 n2 n3
    gi_wp2
    obtain ⟨f1, f2, f3⟩ := FIN.out A7 c7 A8 c8 w8 HL.out HK8.out
    refine ⟨f1, fun x hx => ?_, f3⟩
    simp only [World.size_alloc, List.mem_cons, Option.map_some, Option.toList_some, List.not_mem_nil, or_false] at hx
    exact f2 x (by omega) (by omega) (by omega)
  case done =>
    rintro W ⟨-, rows, A', c', hrows, hI⟩ hD
    rw [List.take_length] at hrows
    have hDs : w.heap.size + 3 = (((w.alloc (.cells #[.slice none 0 0] 46)).alloc (.cells #[iV 0] 3)).alloc (.cells #[.slice A j.length c] 38)).heap.size := by simp
    rw [← hDs] at hD ⊢
    clear hDs
    have HI := Lib.hid hI
    have HD := Lib.hid hD; clear hD
    have HROWS := Lib.hid hrows; clear hrows
    have n0 : W.cell? ⟨w.heap.size, 0, none⟩ = some (.slice A' rows.length c') := cell_of_row _ _ 0 _ _ _ hI.1
    have n2 : W.cell? ⟨w.heap.size + 1, 0, none⟩ = some (iV (offs (recs j) (recs j).length)) := cell_of_row _ _ 0 _ _ _ hI.2.1
    clear hI
    go_wp2
    go_quiet (fail)
    go_wp2
    have hD6 : (W.drewN nq).heap[w.heap.size + 3]? = some (.deferred (some [])) := HD.out
    refine ⟨by simp, .inl ⟨_, _, rfl, run_takeDeferred hD6, ?_⟩⟩
    refine ⟨_, by simp [results, Try.results16]; rfl, ?_⟩
    refine ⟨rows, A', c', HROWS.out, rfl, ownsRow_putObj (own_drewN (own_base HI.out.2.2.1 (by omega)) _) _ hD6 rfl, fun r hr => ownsRow_putObj (own_drewN (own_base (HI.out.2.2.2.1 r hr) (by omega)) _) _ hD6 rfl, below_put (below_drewN HI.out.2.2.2.2 _) (by omega) _⟩
end Go.Proofs.Ytoaembpakmpolaa
