/-
  The walks over the writer of package journal.
-/
import Derived.Test.YtoaembpakmpolaaJouPlain
namespace Go.Proofs.Ytoaembpakmpolaa
open Go.RowKit Jou
attribute [local go_sem] ba_get ba_extract ba_append

theorem byteInfo : (Try.prog.info? 5).map (fun i => (i.zero, i.size, i.bytes)) = some (some (.int .u8 0), 1, 1) := by kernel_rfl

/-- The writer at block p: its row v, its state. -/
structure Wr (w : World) (p : Nat) (v : Value) (st : Option (List UInt8)) : Prop where
  bytes : w.cell? ⟨p, 0, none⟩ = some v
  full : w.cell? ⟨p, 1, none⟩ = some (.bool st.isNone)
  fr0 : w.frozen? ⟨p, 0, none⟩ = false
  fr1 : w.frozen? ⟨p, 1, none⟩ = false
  own : ∀ g, v.ownBlock = some g → p < g ∧ g < w.heap.size
  form : ∃ A m c, v = .slice A m c
  row : ∀ l, st = some l → l.length ≤ 3000 ∧ w.ownsRow (p + 1) 5 1 v l.length (l.map bV)
/-- What a step of the writer's leaves as it was. -/
structure Wk (p : Nat) (w w' : World) (v v' : Value) : Prop where
  os : w'.os = w.os
  tape : w'.tape = w.tape
  output : w'.output = w.output
  size : w.heap.size ≤ w'.heap.size
  block : ∀ k, k < w.heap.size → k ≠ p → some k ≠ v.ownBlock → w'.heap[k]? = w.heap[k]?
  own : ∀ g, v'.ownBlock = some g → v.ownBlock = some g ∨ w.heap.size ≤ g
theorem Wk.refl (p : Nat) (w : World) (v : Value) : Wk p w w v v := ⟨rfl, rfl, rfl, Nat.le_refl _, fun _ _ _ _ => rfl, fun _ h => .inl h⟩
theorem Wk.trans {p : Nat} {a b c : World} {u v x : Value} (h : Wk p a b u v) (k : Wk p b c v x) : Wk p a c u x := by
  refine ⟨k.os.trans h.os, k.tape.trans h.tape, k.output.trans h.output, Nat.le_trans h.size k.size, fun i hi hp hu => ?_, fun g hg => ?_⟩
  · refine (k.block i (Nat.lt_of_lt_of_le hi h.size) hp ?_).trans (h.block i hi hp hu)
    intro e
    rcases h.own i e.symm with h1 | h1
    · exact hu h1.symm
    · omega
  · rcases k.own g hg with h1 | h1
    · exact h.own g h1
    · have := h.size; exact .inr (by omega)
theorem Wk.below {p : Nat} {a b : World} {u v : Value} (h : Wk p a b u v) {st : Option (List UInt8)} (hw : Wr a p u st) : Below p a b :=
  have hp := World.block_lt_of_cell? a _ hw.bytes
  ⟨h.os, h.tape, h.output, h.size, fun k hk => h.block k (Nat.lt_trans hk hp) (by omega) (fun e => by have := hw.own k e.symm; omega)⟩
theorem Wk.alloc (p : Nat) (w : World) (v : Value) (o : Obj) : Wk p w (w.alloc o) v v :=
  ⟨rfl, rfl, rfl, by simp, fun k hk _ _ => Below.heap_alloc _ _ _ hk, fun _ h => .inl h⟩
theorem Wr.lt {w : World} {p : Nat} {v : Value} {st : Option (List UInt8)} (h : Wr w p v st) : p < w.heap.size := World.block_lt_of_cell? w _ h.bytes
theorem Wr.fits {w : World} {p : Nat} {v : Value} {st : Option (List UInt8)} (h : Wr w p v st) : Fits st := fun l hl => (h.row l hl).1
/-- A block that is no part of the writer. -/
theorem Wk.keep {p : Nat} {a b : World} {u v : Value} (h : Wk p a b u v) {k : Nat} (hk : k < a.heap.size) (hp : k ≠ p) (hu : some k ≠ u.ownBlock) : b.heap[k]? = a.heap[k]? := h.block k hk hp hu
theorem Wr.grown {w w' : World} {p : Nat} {v : Value} {st : Option (List UInt8)} (h : Wr w p v st) (hg : w.grownBy w' none) : Wr w' p v st := by
  have hb : w'.heap[p]? = w.heap[p]? := hg.block p h.lt (by simp)
  refine ⟨(World.cell?_of_block (a := ⟨p, 0, none⟩) hb).trans h.bytes, (World.cell?_of_block (a := ⟨p, 1, none⟩) hb).trans h.full, (World.frozen?_of_block (a := ⟨p, 0, none⟩) hb).trans h.fr0, (World.frozen?_of_block (a := ⟨p, 1, none⟩) hb).trans h.fr1, fun g hg' => ⟨(h.own g hg').1, Nat.lt_of_lt_of_le (h.own g hg').2 hg.size⟩, h.form, fun l hl => ⟨(h.row l hl).1, (h.row l hl).2.kept hg (by cases v.ownBlock <;> simp)⟩⟩
theorem Wr.alloc {w : World} {p : Nat} {v : Value} {st : Option (List UInt8)} (h : Wr w p v st) (o : Obj) : Wr (w.alloc o) p v st := h.grown (World.grownBy_alloc w o none)
theorem Wk.setCell {p : Nat} {a b : World} {u v : Value} (h : Wk p a b u v) (j : Nat) (x : Value) : Wk p a (b.setCell ⟨p, j, none⟩ x) u v :=
  ⟨h.os, h.tape, h.output, by simp [World.setCell]; exact h.size, fun k hk hp hu => (Below.heap_setCell _ _ _ _ (by simpa using hp)).trans (h.block k hk hp hu), h.own⟩

/-- A block apart from the writer. -/
def Ap (p : Nat) (v : Value) (w : World) (B : Nat) : Prop := B < w.heap.size ∧ B ≠ p ∧ some B ≠ v.ownBlock
theorem Wk.ap {p : Nat} {a b : World} {u v : Value} (h : Wk p a b u v) {B : Nat} (hB : Ap p u a B) : Ap p v b B :=
  ⟨Nat.lt_of_lt_of_le hB.1 h.size, hB.2.1, fun e => by
    rcases h.own B e.symm with h1 | h1
    · exact hB.2.2 h1.symm
    · have := hB.1; omega⟩
theorem Wk.heap {p : Nat} {a b : World} {u v : Value} (h : Wk p a b u v) {B : Nat} (hB : Ap p u a B) : b.heap[B]? = a.heap[B]? := h.block B hB.1 hB.2.1 hB.2.2
theorem Wk.cell {p : Nat} {a b : World} {u v : Value} (h : Wk p a b u v) {B : Nat} (hB : Ap p u a B) (j : Nat) : b.cell? ⟨B, j, none⟩ = a.cell? ⟨B, j, none⟩ := World.cell?_of_block (h.heap hB)
theorem Wk.rd {p : Nat} {a b : World} {u v : Value} (h : Wk p a b u v) {A : Option Addr} {xs : List Value} (hr : Rd a A xs) (hA : ∀ x, A = some x → Ap p u a x.block) : Rd b A xs :=
  hr.same h.size fun x hx _ => h.heap (hA x hx)
theorem Wr.ap_new {w : World} {p : Nat} {v : Value} {st : Option (List UInt8)} (h : Wr w p v st) (o : Obj) : Ap p v (w.alloc o) w.heap.size :=
  ⟨by simp, by have := World.block_lt_of_cell? w _ h.bytes; intro e; simp at this; omega, fun e => by have := (h.own _ e.symm).2; omega⟩
theorem Ap.alloc {p : Nat} {v : Value} {w : World} {B : Nat} (h : Ap p v w B) (o : Obj) : Ap p v (w.alloc o) B := ⟨by have := h.1; simp; omega, h.2⟩

/-- The writer becomes full. -/
theorem Wr.fill {w : World} {p : Nat} {v : Value} {st : Option (List UInt8)} (h : Wr w p v st) : Wr (w.setCell ⟨p, 1, none⟩ (.bool true)) p v none := by
  refine ⟨?_, ?_, ?_, ?_, fun g hg => ⟨(h.own g hg).1, by simpa [World.setCell] using (h.own g hg).2⟩, h.form, fun l hl => by cases hl⟩
  · rw [World.cell?_setCell_other _ _ _ _ (by simp)]; exact h.bytes
  · exact World.cell?_setCell_same' _ _ _ (by rw [h.full]; rfl)
  · rw [World.frozen?_setCell]; exact h.fr0
  · rw [World.frozen?_setCell]; exact h.fr1

/-- The writer's row has grown. -/
theorem Wr.appended {w w1 : World} {p : Nat} {v v' : Value} {l b : List UInt8} (h : Wr w p v (some l)) (hf : l.length + b.length ≤ 3000)
    (ho : w1.ownsRow (p + 1) 5 1 v' (l.length + b.length) (l.map bV ++ b.map bV)) (hg : w.grownBy w1 v.ownBlock) (hat : v'.ownBlock = v.ownBlock ∨ v'.ownBlock = some w.heap.size) :
    Wk p w (w1.setCell ⟨p, 0, none⟩ v') v v' ∧ Wr (w1.setCell ⟨p, 0, none⟩ v') p v' (some (l ++ b)) := by
  have hp : some p ≠ v.ownBlock := fun e => by have := h.own p e.symm; omega
  have hb : w1.heap[p]? = w.heap[p]? := hg.block p h.lt hp
  have hk : Wk p w w1 v v' := ⟨hg.os, hg.tape, hg.output, hg.size, fun k hk _ hu => hg.block k hk hu, fun g hg' => by
    rcases hat with h1 | h1
    · exact .inl (h1.symm.trans hg')
    · rw [h1] at hg'; cases hg'; exact .inr (Nat.le_refl _)⟩
  refine ⟨hk.setCell _ _, ?_, ?_, ?_, ?_, fun g hg' => ⟨(ho.lt g hg').1, by simpa [World.setCell] using (ho.lt g hg').2⟩, ?_, fun l' hl' => ?_⟩
  · exact World.cell?_setCell_same' _ _ _ (by rw [World.cell?_of_block (a := ⟨p, 0, none⟩) hb, h.bytes]; rfl)
  · rw [World.cell?_setCell_other _ _ _ _ (by simp)]; exact (World.cell?_of_block (a := ⟨p, 1, none⟩) hb).trans h.full
  · rw [World.frozen?_setCell]; exact (World.frozen?_of_block (a := ⟨p, 0, none⟩) hb).trans h.fr0
  · rw [World.frozen?_setCell]; exact (World.frozen?_of_block (a := ⟨p, 1, none⟩) hb).trans h.fr1
  · obtain ⟨A, c, e⟩ := own_form ho; exact ⟨A, _, c, e⟩
  · cases hl'
    refine ⟨by simpa using hf, ?_⟩
    have := ownsRow_setCell_below ho (a := ⟨p, 0, none⟩) (by simp) v'
    simpa using this

set_option maxHeartbeats 1000000 in
set_option maxRecDepth 100000 in
theorem put_any (p : Nat) (v : Value) (st : Option (List UInt8)) (A : Option Addr) (b : List UInt8) (m c : Nat) (w : World) (hW : Wr w p v st) (hb : Rd w A (b.map bV)) (hm : m = b.length) (hl : b.length ≤ 100000) :
    Calls Try.prog 42 #[.pointer (some ⟨p, 0, none⟩), .slice A m c] w fun e w' =>
      e = .returned (.tuple #[]) ∧ ∃ v', Wk p w w' v v' ∧ Wr w' p v' (put st b) := by
  subst hm
  have HW := Lib.hid hW
  obtain ⟨h1, h2, h3, h4, h5, ⟨A1, m1, c1, rfl⟩, h7⟩ := hW
  have H5 := Lib.hid h5; clear h5
  cases st with
  | none =>
    clear h7
    simp only [Option.isNone_none] at h2
    go_enter Try.func42, Try.ntmps42
    go_wp2
    refine bodyPost_ret (results_none rfl _ _ _) rfl ?_
    exact ⟨rfl, _, (Wk.refl _ _ _).setCell _ _, HW.out.fill⟩
  | some l =>
    simp only [Option.isNone_some] at h2
    have H7 := Lib.hid (h7 l rfl); clear h7
    have hm1 : m1 = l.length := by
      obtain ⟨A2, c2, he⟩ := own_form H7.out.2
      cases he; rfl
    subst hm1
    have h3000 := H7.out.1
    have hwr : IntKind.i64.wrap ((l.length : Int) + (b.length : Int)) = (l.length : Int) + (b.length : Int) := IntWalk.i64_in _ (by omega)
    have HB := Lib.hid hb; clear hb
    by_cases hfit : l.length + b.length ≤ 3000
    · have hf' : ¬ (3000 : Int) < (l.length : Int) + (b.length : Int) := by omega
      obtain ⟨i0, hi0, hz0, hz1, hz2⟩ := info_parts byteInfo
      go_enter Try.func42, Try.ntmps42
      go_wp2_with (at_builtin; refine wpList_app (by rfl) _ _ _ _ (by rfl) (p + 1) 5 i0 _ 1 1 Try.underlying38 hi0 hz0 hz1 hz2 (by rfl) _ l.length _ (by rfl) H7.out.2 _ (by rfl) b.length _ (src_rd Try.underlying38 HB.out (by simp) (one_b b)) (by unfold maxLen; omega) (by omega) (by have := HW.out.lt; omega) ?_)
      intro A' c' w1 hown hgrow hat
      have hp1 : some p ≠ (Value.slice A1 l.length c1).ownBlock := fun e => by have := H5.out p e.symm; omega
      have hc0 : w1.cell? ⟨p, 0, none⟩ = some (.slice A1 l.length c1) := (hgrow.cell_far ⟨p, 0, none⟩ HW.out.lt hp1).trans h1
      have hf0 : w1.frozen? ⟨p, 0, none⟩ = false := (hgrow.frozen_far ⟨p, 0, none⟩ HW.out.lt hp1).trans h3
      have HN := Lib.hid (HW.out.appended hfit hown hgrow hat)
      clear hown hgrow hat hp1
      go_wp2
      go_end0
      refine ⟨rfl, _, HN.out.1, ?_⟩
      rw [put, if_pos hfit]
      exact HN.out.2
    · have hf' : (3000 : Int) < (l.length : Int) + (b.length : Int) := by omega
      go_enter Try.func42, Try.ntmps42
      go_wp2
      refine bodyPost_ret (results_none rfl _ _ _) rfl ?_
      refine ⟨rfl, _, (Wk.refl _ _ _).setCell _ _, ?_⟩
      rw [put, if_neg hfit]
      exact HW.out.fill
theorem Rd.new (w : World) (cs : List Value) (t : TypeId) : Rd (w.alloc (.cells cs.toArray t)) (some ⟨w.heap.size, 0, none⟩) cs := by
  refine .inr ⟨_, _, rfl, by simp, fun i u hu => ?_⟩
  have := World.news_of_block (heap_alloc_new w (.cells cs.toArray t)) i u (by simpa using hu)
  rwa [add_at] at this
theorem byte_eq (n : Int) (j : Nat) (hj : j < 8) : IntKind.u64.wrap n / 2 ^ (56 - 8 * j) % 256 = ((byteAt (ofI n) (7 - j)).toNat : Int) := by
  have e1 : IntKind.u64.wrap n = n % 18446744073709551616 := by simp [IntKind.wrap_u64]
  rw [e1]
  have h0 : 0 ≤ n % 18446744073709551616 := Int.emod_nonneg _ (by decide)
  obtain ⟨m, hm⟩ := Int.eq_ofNat_of_zero_le h0
  unfold byteAt ofI
  rw [hm, Int.toNat_natCast, UInt8.toNat_ofNat']
  have : (256 : Nat) ^ (7 - j) = 2 ^ (56 - 8 * j) := by
    rw [show (256 : Nat) = 2 ^ 8 by rfl, ← Nat.pow_mul]; congr 1; omega
  rw [this, Int.natCast_emod, Int.natCast_ediv, Int.natCast_pow]
  rfl
theorem numB_get (n : Int) (j : Nat) (hj : j < 8) : (numB n)[j]? = some (byteAt (ofI n) (7 - j)) := by
  have : j = 0 ∨ j = 1 ∨ j = 2 ∨ j = 3 ∨ j = 4 ∨ j = 5 ∨ j = 6 ∨ j = 7 := by omega
  rcases this with rfl | rfl | rfl | rfl | rfl | rfl | rfl | rfl <;> rfl
theorem numsB_snoc (ns : List Int) (k : Nat) (h : k < ns.length) : numsB (ns.take (k + 1)) = numsB (ns.take k) ++ numB ns[k] := by
  unfold numsB
  rw [List.take_add_one, List.getElem?_eq_getElem h, List.flatMap_append]
  simp
set_option maxHeartbeats 1000000 in
set_option maxRecDepth 100000 in
theorem numbers_any (p : Nat) (v : Value) (st : Option (List UInt8)) (A : Option Addr) (ns : List Int) (m c : Nat) (w : World) (hW : Wr w p v st) (hb : Rd w A (ns.map iV)) (hm : m = ns.length) (hl : ns.length ≤ 100000)
    (hi : ∀ n ∈ ns, -9223372036854775808 ≤ n ∧ n ≤ 9223372036854775807) (hA : ∀ a, A = some a → Ap p v w a.block) :
    Calls Try.prog 43 #[.pointer (some ⟨p, 0, none⟩), .slice A m c] w fun e w' =>
      e = .returned (.tuple #[]) ∧ ∃ v', Wk p w w' v v' ∧ Wr w' p v' (numsW st ns) := by
  subst hm
  have HB := Lib.hid hb; clear hb
  have HI := Lib.hid hi; clear hi
  have HA := Lib.hid hA; clear hA
  have HW := Lib.hid hW; clear hW
  go_enter Try.func43, Try.ntmps43
  go_wp2
  go_loopg [10] ns.length (fun g i wr => ∃ k v1, k + g = ns.length ∧ i = iV k ∧ Wk p w wr v v1 ∧ Wr wr p v1 (put st (numsB (ns.take k))))
  case atStart => exact ⟨0, v, by simp, rfl, Wk.refl _ _ _, by simp [numsB, put_nil _ HW.out.fits]; exact HW.out⟩
  case round =>
    obtain ⟨k, v1, hk, rfl, hk1, hw1⟩ := hrel
    have HK1 := Lib.hid hk1; clear hk1
    have HW1 := Lib.hid hw1; clear hw1
    cases gk with
    | zero =>
      have hlt : ¬ (k : Int) < (ns.length : Int) := by omega
      go_wp2
      go_end0
      refine ⟨rfl, v1, HK1.out, ?_⟩
      have := HW1.out
      rw [List.take_of_length_le (by omega)] at this
      exact this
    | succ g1 =>
      have hlt : (k : Int) < (ns.length : Int) := by omega
      have hlt' : k < ns.length := by omega
      obtain ⟨b, off, rfl, hb1, hc⟩ := HB.out.get (i := k) (by simpa using hlt')
      have hcell : wr.cell? ⟨b, off + k, none⟩ = some (iV ns[k]) := by
        rw [World.cell?_of_block (w := w) (a := ⟨b, off + k, none⟩) (HK1.out.heap (HA.out ⟨b, off, none⟩ rfl))]
        exact hc k _ (by simp [hlt'])
      have hn := HI.out ns[k] (List.getElem_mem _)
      clear hc
      go_wp2
      go_loopg [7] 8 (fun g s wz => ∃ j v2, j + g = 8 ∧ s = iV (56 - 8 * (j : Int)) ∧ Wk p w wz v v2 ∧ Wr wz p v2 (put st (numsB (ns.take k) ++ (numB ns[k]).take j)))
      case atStart => exact ⟨0, v1, by omega, by simp, HK1.out, by simpa using HW1.out⟩
      case round =>
        obtain ⟨j, v2, hj, rfl, hk2, hw2⟩ := hrel
        have HK2 := Lib.hid hk2; clear hk2
        have HW2 := Lib.hid hw2; clear hw2
        cases gk with
        | zero =>
          have hj0 : ¬ (0 : Int) ≤ 56 - 8 * (j : Int) := by omega
          go_wp2
          go_roundg g1
          case measure => omega
          case rel =>
            refine ⟨k + 1, v2, by omega, by go_num, HK2.out, ?_⟩
            have := HW2.out
            rw [List.take_of_length_le (l := numB ns[k]) (by show 8 ≤ j; omega), ← numsB_snoc ns k hlt'] at this
            exact this
        | succ g2 =>
          have hj0 : (0 : Int) ≤ 56 - 8 * (j : Int) := by omega
          have hby := byte_eq ns[k] j (by omega)
          have hnb := numB_get ns[k] j (by omega)
          have HN := Lib.hid hnb; clear hnb
          go_wp2_with fail
          refine (put_any p v2 _ _ [byteAt (ofI ns[k]) (7 - j)] 1 1 _ (HW2.out.alloc _) (Rd.new _ _ _) rfl (by simp)).mono ?_
          rintro e w3 ⟨rfl, v3, hk3, hw3⟩
          have HK3 := Lib.hid (HK2.out.trans ((Wk.alloc _ _ _ _).trans hk3)); clear hk3
          have HW3 := Lib.hid hw3; clear hw3
          go_wp2
          go_roundg g2
          case measure => omega
          case rel =>
            refine ⟨j + 1, v3, by omega, by go_num, HK3.out, ?_⟩
            have := HW3.out
            rw [put_put, List.append_assoc] at this
            rw [List.take_add_one, HN.out]
            exact this
end Go.Proofs.Ytoaembpakmpolaa
