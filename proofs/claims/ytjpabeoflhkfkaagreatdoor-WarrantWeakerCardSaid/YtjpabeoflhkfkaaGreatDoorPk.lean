/-
  The walks over promise's iterator of cut-offs. The walks over promise.cutoffs and promise.most: the greatest number of days that a cut-off needs. The walks over promise.rows. The walk over promise.Table. The walks over promise.complete and promise.Due, where one day is promised. The laws of the chapter in plain Lean: first minutes, ways, promises.
-/
import Derived.Test.YtjpabeoflhkfkaaGreatDoorPj
import Derived.Test.YtjpabeoflhkfkaaGreatDoorPa
import Derived.Laws.EntriesVeiled
import Derived.RecoverIn
import Derived.OwnWalk
import Derived.Test.YtjpabeoflhkfkaaGreatDoorPb
namespace Go.Proofs.YtjpabeoflhkfkaaGreatDoor
open Go.RowKit
attribute [local go_sem] Oper.semAt_some

/-- The cut-offs from a time on, before another one. -/
def cutsF (c : Cal) (m till : Int) : Nat → Int → List Int
  | 0, _ => []
  | f + 1, t => if (firstR c m t).2 = 0 ∧ (firstR c m t).1 < till then (firstR c m t).1 :: cutsF c m till f ((firstR c m t).1 + 1) else []
theorem cutsF_more (c : Cal) {m : Int} (h1 : 0 ≤ m) (h2 : m < 1440) (till : Int) : ∀ (f g : Nat) (t : Int), (till - t).toNat ≤ f → (till - t).toNat ≤ g → cutsF c m till f t = cutsF c m till g t
  | 0, 0, _, _, _ => rfl
  | 0, g + 1, t, hf, _ => by
    unfold cutsF
    rw [if_neg]
    rintro ⟨h3, h4⟩
    have := firstR_in h1 h2 (x := (firstR c m t).1) (by rw [← h3])
    omega
  | f + 1, 0, t, _, hg => by
    conv => rhs; unfold cutsF
    unfold cutsF
    rw [if_neg]
    rintro ⟨h3, h4⟩
    have := firstR_in h1 h2 (x := (firstR c m t).1) (by rw [← h3])
    omega
  | f + 1, g + 1, t, hf, hg => by
    unfold cutsF
    by_cases h : (firstR c m t).2 = 0 ∧ (firstR c m t).1 < till
    · rw [if_pos h, if_pos h]
      have h5 := firstR_in h1 h2 (c := c) (t := t) (x := (firstR c m t).1) (by rw [← h.1])
      rw [cutsF_more c h1 h2 till f g _ (by omega) (by omega)]
    · rw [if_neg h, if_neg h]
def cuts (c : Cal) (m till t : Int) : List Int := cutsF c m till (till - t).toNat t
theorem cuts_eq (c : Cal) {m : Int} (h1 : 0 ≤ m) (h2 : m < 1440) (till t : Int) : cuts c m till t = if (firstR c m t).2 = 0 ∧ (firstR c m t).1 < till then (firstR c m t).1 :: cuts c m till ((firstR c m t).1 + 1) else [] := by
  have h3 : cuts c m till t = cutsF c m till ((till - t).toNat + 1) t := cutsF_more c h1 h2 till _ _ _ (Nat.le_refl _) (by omega)
  rw [h3, cutsF]
  by_cases h : (firstR c m t).2 = 0 ∧ (firstR c m t).1 < till
  · rw [if_pos h, if_pos h]
    have h5 := firstR_in h1 h2 (c := c) (t := t) (x := (firstR c m t).1) (by rw [← h.1])
    rw [cutsF_more c h1 h2 till _ (till - ((firstR c m t).1 + 1)).toNat _ (by omega) (Nat.le_refl _)]
    rfl
  · rw [if_neg h, if_neg h]
theorem NetP.heap {w W : World} {N : Nat} {n : Net} (h : NetP w N n) (hs : w.heap.size ≤ W.heap.size) (hk : ∀ b < w.heap.size, W.heap[b]? = w.heap[b]?) : NetP W N n := by
  have g := h.below (w' := { w with heap := W.heap }) ⟨rfl, rfl, rfl, hs, fun i hi => hk i hi⟩
  exact ⟨g.box, ⟨g.net.cals, g.net.cal, g.net.names, g.net.name, g.net.ops, g.net.op, g.net.offs, g.net.off, g.net.lins, g.net.lin, g.net.clss, g.net.cls, g.net.lens⟩⟩
/-- What the iterator reads. -/
structure CuS (w : World) (n : Net) (N P1 P2 P3 P4 P5 o k : Nat) (fr till : Int) : Prop where
  net : NetP w N n
  b1 : w.cell? ⟨P1, 0, none⟩ = some (iV fr)
  b2 : w.cell? ⟨P2, 0, none⟩ = some (.pointer (some ⟨N, 0, none⟩))
  b3 : w.cell? ⟨P3, 0, none⟩ = some (iV o)
  b4 : w.cell? ⟨P4, 0, none⟩ = some (iV k)
  b5 : w.cell? ⟨P5, 0, none⟩ = some (iV till)
theorem CuS.below {w w' : World} {n : Net} {N P1 P2 P3 P4 P5 o k : Nat} {fr till : Int} (h : CuS w n N P1 P2 P3 P4 P5 o k fr till) (hb : Below w.heap.size w w') : CuS w' n N P1 P2 P3 P4 P5 o k fr till :=
  ⟨h.net.below hb, (hb.cell (p := ⟨P1, 0, none⟩) (World.block_lt_of_cell? w _ h.b1)).trans h.b1, (hb.cell (p := ⟨P2, 0, none⟩) (World.block_lt_of_cell? w _ h.b2)).trans h.b2, (hb.cell (p := ⟨P3, 0, none⟩) (World.block_lt_of_cell? w _ h.b3)).trans h.b3, (hb.cell (p := ⟨P4, 0, none⟩) (World.block_lt_of_cell? w _ h.b4)).trans h.b4, (hb.cell (p := ⟨P5, 0, none⟩) (World.block_lt_of_cell? w _ h.b5)).trans h.b5⟩
/-- The blocks that it reads, in the world w0 that has the network: those of w0, and its own. -/
def cuB (w0 : World) (P1 P2 P3 P4 P5 : Nat) (b : Nat) : Prop := b < w0.heap.size ∨ b = P1 ∨ b = P2 ∨ b = P3 ∨ b = P4 ∨ b = P5
/-- The blocks of w0 are as they were. -/
def Same0 (w0 w : World) : Prop := w0.heap.size ≤ w.heap.size ∧ ∀ b < w0.heap.size, w.heap[b]? = w0.heap[b]?
theorem Same0.below {w0 w w' : World} (h : Same0 w0 w) (hb : Below w.heap.size w w') : Same0 w0 w' := ⟨Nat.le_trans h.1 hb.size, fun b hb2 => (hb.block b (Nat.lt_of_lt_of_le hb2 h.1)).trans (h.2 b hb2)⟩
theorem Same0.keep {w0 w w' : World} {P1 P2 P3 P4 P5 : Nat} (h : Same0 w0 w) (hz : w.heap.size ≤ w'.heap.size) (hk : KeepP (cuB w0 P1 P2 P3 P4 P5) w w') : Same0 w0 w' := ⟨Nat.le_trans h.1 hz, fun b hb => (hk b (.inl hb)).trans (h.2 b hb)⟩
theorem CuS.keep {w0 w w' : World} {n : Net} {N P1 P2 P3 P4 P5 o k : Nat} {fr till : Int} (hn : NetP w0 N n) (h0 : Same0 w0 w) (h : CuS w n N P1 P2 P3 P4 P5 o k fr till) (hz : w.heap.size ≤ w'.heap.size) (hk : KeepP (cuB w0 P1 P2 P3 P4 P5) w w') : CuS w' n N P1 P2 P3 P4 P5 o k fr till := by
  have hc : ∀ {b v}, cuB w0 P1 P2 P3 P4 P5 b → w.cell? ⟨b, 0, none⟩ = some v → w'.cell? ⟨b, 0, none⟩ = some v := fun {b v} hb hv => (World.cell?_of_block (a := ⟨b, 0, none⟩) (hk b hb)).trans hv
  have h1 := h0.keep hz hk
  exact ⟨hn.heap h1.1 h1.2, hc (by simp [cuB]) h.b1, hc (by simp [cuB]) h.b2, hc (by simp [cuB]) h.b3, hc (by simp [cuB]) h.b4, hc (by simp [cuB]) h.b5⟩
def encI (l : List Int) (k : Nat) : Array Value := #[iV (l.getD k 0)]
set_option maxHeartbeats 8000000 in
set_option maxRecDepth 100000 in
theorem cuts_seq (w0 : World) (n : Net) (N P1 P2 P3 P4 P5 o k : Nat) (fr till : Int) (w : World) (hn : NetP w0 N n) (hb0 : Same0 w0 w) (hG : Good n) (hk : k < n.clss.length) (ho : o < n.offs.length) (h : CuS w n N P1 P2 P3 P4 P5 o k fr till) (hf : 0 ≤ fr) (hf2 : fr ≤ 3000000) (ht : till ≤ 3000000) :
    SeqP Tryz.prog 129 #[.pointer (some ⟨P1, 0, none⟩), .pointer (some ⟨P2, 0, none⟩), .pointer (some ⟨P3, 0, none⟩), .pointer (some ⟨P4, 0, none⟩), .pointer (some ⟨P5, 0, none⟩)] (cuts (calAt n o) (clsAt n k).cut till fr).length (encI (cuts (calAt n o) (clsAt n k).cut till fr)) (cuB w0 P1 P2 P3 P4 P5) w := by
  intro l J Jp hJ hY W hK hz hJ0
  have HN := Lib.hid hn; clear hn
  have HS0 := Lib.hid (h.keep HN.out hb0 hz hK)
  have HZ0 := Lib.hid (hb0.keep hz hK)
  have HJ := Lib.hid hJ; clear hJ
  have HY := Lib.hid hY; clear hY
  obtain ⟨ci, hci⟩ := hG.calAt ho
  have HCI := Lib.hid hci; clear hci
  have HC := Lib.hid (hG.cls _ (List.mem_of_getElem? (clsAt_get hk)))
  have HKC := Lib.hid (clsAt_get hk)
  clear hK hz hb0 h hG
  have hk0 : (0 : Int) ≤ (k : Int) := by omega
  have hk1 : (k : Int) < (n.clss.length : Int) := by omega
  refine callsIn_of_wp Tryz.func129 rfl trivial ?_ rfl
  simp only [Tryz.ntmps129, List.size_toArray, List.length_cons, List.length_nil, Nat.reduceAdd, Nat.reduceSub, Array.replicate_succ, Array.replicate_zero, List.push_toArray, List.append_toArray, List.nil_append, List.cons_append]
  have e1 := HS0.out.b1
  gi_wp2
  clear e1
  generalize hL : cuts (calAt n o) (clsAt n k).cut till fr = L at *
  have HL := Lib.hid hL; clear hL
  gi_loopw [7] (fun i wr => ∃ (j : Nat) (t : Int), j ≤ L.length ∧ 0 ≤ t ∧ t ≤ 3100000 ∧ i = iV t ∧ J j wr ∧ CuS wr n N P1 P2 P3 P4 P5 o k fr till ∧ cuts (calAt n o) (clsAt n k).cut till t = L.drop j ∧ Same0 w0 wr) (fun i _ => (3200000 - intOf i).toNat)
  case atStart => exact ⟨0, fr, Nat.zero_le _, hf, by omega, rfl, hJ0, HS0.out, by rw [HL.out]; rfl, HZ0.out⟩
  case round =>
    obtain ⟨j, t, hj, ht1, ht2, rfl, hjj, hS, hcu, hz⟩ := hrel
    have HS := Lib.hid hS; clear hS
    have HJK := Lib.hid hjj; clear hjj
    have HCU := Lib.hid hcu; clear hcu
    have HZ := Lib.hid hz; clear hz
    obtain ⟨-, lb, lo, hlA, hlb, -, hlc⟩ := elem_at encCls_len HS.out.net.net.clss HKC.out (by omega)
    have n5 : wr.cell? ⟨N, 5, none⟩ = some (.slice n.clsA n.clss.length n.clsC) := HS.out.net.box 5 _ rfl
    have l1 : wr.cell? ⟨lb, lo + k * 3 + 1, none⟩ = some (iV (clsAt n k).cut) := hlc 1 _ rfl
    rw [hlA] at n5
    have HSw : Hid (∀ w', Below wr.heap.size wr w' → w'.cell? ⟨P2, 0, none⟩ = some (.pointer (some ⟨N, 0, none⟩)) ∧ w'.cell? ⟨P3, 0, none⟩ = some (iV o) ∧ w'.cell? ⟨P4, 0, none⟩ = some (iV k) ∧ w'.cell? ⟨N, 5, none⟩ = some (.slice (some ⟨lb, lo, none⟩) n.clss.length n.clsC) ∧ w'.cell? ⟨lb, lo + k * 3 + 1, none⟩ = some (iV (clsAt n k).cut)) := fun w' hb =>
      ⟨(HS.out.below hb).b2, (HS.out.below hb).b3, (HS.out.below hb).b4, (hb.cell (p := ⟨N, 5, none⟩) HS.out.net.lt).trans n5, (hb.cell (p := ⟨lb, _, none⟩) hlb).trans l1⟩
    clear hlc hlA hlb n5 l1
    refine wpIn_block ?_
    refine wpIn_seq ?_
    refine wpIn_wide.2 ?_
    go_region_held3 (fun w' => w'.cell? ⟨P2, 0, none⟩ = some (.pointer (some ⟨N, 0, none⟩)) ∧ w'.cell? ⟨P3, 0, none⟩ = some (iV o) ∧ w'.cell? ⟨P4, 0, none⟩ = some (iV k) ∧ w'.cell? ⟨N, 5, none⟩ = some (.slice (some ⟨lb, lo, none⟩) n.clss.length n.clsC) ∧ w'.cell? ⟨lb, lo + k * 3 + 1, none⟩ = some (iV (clsAt n k).cut)) (first | (with_reducible exact HSw.out _ (b_drew (Below.refl _ _))) | (with_reducible exact HSw.out _ HB1a.out) | (with_reducible exact HSw.out _ HB1b.out)) (first
      | (go_at_call 51; refine (calof_any N n o ci _ _ _ (HS.out.net.drewN 1) (offAt_get ho) HCI.out.1 HCI.out.2.1).mono ?_; rintro e w1a ⟨rfl, hb⟩; have HB1a := Lib.hid (bdr hb); clear hb)
      | (go_at_call 50; refine (first_any _ _ t _ ((HS.out.net.net.cal _ (List.mem_of_getElem? HCI.out.2.1)).below HB1a.out) HCI.out.2.2 HC.out.1 HC.out.2.1 (by omega) (by omega)).mono ?_; rintro e w2 ⟨rfl, hb⟩; have HB1b := Lib.hid (bt HB1a.out hb); clear hb)
      | fail)
    have HJ2 := Lib.hid (HJ.out j wr w2 HJK.out HB1b.out)
    have HS2 := Lib.hid (HS.out.below HB1b.out)
    have HZ2 := Lib.hid (HZ.out.below HB1b.out)
    have p5 := HS2.out.b5
    clear HS HJK HZ HSw HB1a HB1b
    have hce := cuts_eq (calAt n o) HC.out.1 HC.out.2.1 till t
    rw [HCU.out] at hce
    have HCE := Lib.hid hce; clear hce
    change Code.wpIn Fence.wide 8 _ _ _ _ _
    by_cases hF2 : (firstR (calAt n o) (clsAt n k).cut t).2 = 0
    case neg =>
      have hnil : L.drop j = [] := by rw [HCE.out, if_neg (fun h => hF2 h.1)]
      have hjl : j = L.length := by
        have := congrArg List.length hnil
        simp at this
        omega
      have g1 : ((firstR (calAt n o) (clsAt n k).cut t).2 != 0) = true := by simpa using hF2
      have g2 : ((firstR (calAt n o) (clsAt n k).cut t).2 == 0) = false := by simpa using hF2
      subst hjl
      clear hnil hF2
      gi_wp2
      refine ⟨fun _ h => (by cases h), ?_⟩
      gi_wp2
      refine bodyPost_ret (results_none rfl _ _ _) rfl ?_
      exact .inl ⟨⟨_, rfl⟩, by rw [HL.out]; exact HJ2.out⟩
    case pos =>
      have hin := firstR_in HC.out.1 HC.out.2.1 (c := calAt n o) (t := t) (x := (firstR (calAt n o) (clsAt n k).cut t).1) (by rw [← hF2])
      rw [hF2]
      have HF2 := Lib.hid hF2; clear hF2
      generalize hx : (firstR (calAt n o) (clsAt n k).cut t).1 = x at *
      have HX := Lib.hid hx; clear hx
      by_cases hlt : x < till
      case neg =>
        have hnil : L.drop j = [] := by rw [HCE.out, if_neg (fun h => hlt h.2)]
        have hjl : j = L.length := by
          have := congrArg List.length hnil
          simp at this
          omega
        have g1 : till ≤ x := by omega
        subst hjl
        clear hnil hlt
        gi_wp2
        refine ⟨fun _ h => (by cases h), ?_⟩
        gi_wp2
        refine bodyPost_ret (results_none rfl _ _ _) rfl ?_
        exact .inl ⟨⟨_, rfl⟩, by rw [HL.out]; exact HJ2.out⟩
      case pos =>
        have hcons : L.drop j = x :: cuts (calAt n o) (clsAt n k).cut till (x + 1) := by rw [HCE.out, if_pos ⟨HF2.out, hlt⟩]
        have hjl : j < L.length := by
          rcases Nat.lt_or_ge j L.length with h | h
          · exact h
          · rw [List.drop_eq_nil_of_le h] at hcons; cases hcons
        have hnext : cuts (calAt n o) (clsAt n k).cut till (x + 1) = L.drop (j + 1) := by
          rw [← List.tail_drop, hcons, List.tail_cons]
        have hget : encI L j = #[iV x] := by
          have h1 : L[j]? = some x := by
            have := congrArg (fun l => l[0]?) hcons
            simpa using this
          unfold encI
          simp [List.getD, h1]
        have HNX := Lib.hid hnext; clear hnext
        clear hcons
        obtain ⟨fn, tmps, assign, body, hy, hR⟩ := HY.out j w2 hjl HJ2.out
        rw [hget] at hy
        clear hget
        have g1 : ¬ till ≤ x := by omega
        gi_wp2_with fail
        refine hR.mono ?_
        clear hy hR p5
        rintro e W3 (⟨rfl, hj3, hz3, hk3⟩ | ⟨ch, rfl, hp⟩)
        · have HS3 := Lib.hid (HS2.out.keep HN.out HZ2.out hz3 hk3)
          have HZ3 := Lib.hid (HZ2.out.keep hz3 hk3)
          have HJ3 := Lib.hid hj3
          clear hj3 hz3 hk3 HS2 HZ2 HJ2
          gi_wp2
          exact ⟨⟨j + 1, x + 1, by omega, by omega, by omega, by go_num, HJ3.out, HS3.out, HNX.out, HZ3.out⟩, by simp [intOf]; omega⟩
        · gi_wp2
          exact ⟨rfl, .inr ⟨ch, rfl, hp⟩⟩
end Go.Proofs.YtjpabeoflhkfkaaGreatDoor
namespace Go.Proofs.YtjpabeoflhkfkaaGreatDoor
open Go.RowKit
attribute [local go_sem] Oper.semAt_some

def CutR (w : World) (n : Net) (N o k : Nat) (fr till : Int) (e : Ending) (w' : World) : Prop :=
  ∃ P1 P2 P3 P4 P5, e = .returned (.func (.func 129) #[] #[.pointer (some ⟨P1, 0, none⟩), .pointer (some ⟨P2, 0, none⟩), .pointer (some ⟨P3, 0, none⟩), .pointer (some ⟨P4, 0, none⟩), .pointer (some ⟨P5, 0, none⟩)]) ∧ CuS w' n N P1 P2 P3 P4 P5 o k fr till ∧ Below w.heap.size w w' ∧ (∀ b, b = P1 ∨ b = P2 ∨ b = P3 ∨ b = P4 ∨ b = P5 → w.heap.size ≤ b)
set_option maxHeartbeats 2000000 in
set_option maxRecDepth 100000 in
theorem cutoffs_any (N : Nat) (n : Net) (o k : Nat) (fr till : Int) (w : World) (hN : NetP w N n) :
    Calls Tryz.prog 96 #[.pointer (some ⟨N, 0, none⟩), iV k, iV o, iV fr, iV till] w (CutR w n N o k fr till) := by
  have HN := Lib.hid hN; clear hN
  go_enter Tryz.func96, Tryz.ntmps96
  go_wp2
  go_ret
  have hb : Below w.heap.size w (((((w.alloc (.cells #[.pointer (some ⟨N, 0, none⟩)] 83)).alloc (.cells #[iV k] 3)).alloc (.cells #[iV o] 3)).alloc (.cells #[iV fr] 3)).alloc (.cells #[iV till] 3)) :=
    (((((Below.refl _ w).alloc (Nat.le_refl _) _).alloc (by simp) _).alloc (by simp; omega) _).alloc (by simp; omega) _).alloc (by simp; omega) _
  have c2 : (w.alloc (.cells #[.pointer (some ⟨N, 0, none⟩)] 83)).heap[w.heap.size]? = some (.cells #[.pointer (some ⟨N, 0, none⟩)] 83) := heap_alloc_new _ _
  have c4 := heap_alloc_new (w.alloc (.cells #[.pointer (some ⟨N, 0, none⟩)] 83)) (.cells #[iV k] 3)
  have c3 := heap_alloc_new ((w.alloc (.cells #[.pointer (some ⟨N, 0, none⟩)] 83)).alloc (.cells #[iV k] 3)) (.cells #[iV o] 3)
  have c1 := heap_alloc_new (((w.alloc (.cells #[.pointer (some ⟨N, 0, none⟩)] 83)).alloc (.cells #[iV k] 3)).alloc (.cells #[iV o] 3)) (.cells #[iV fr] 3)
  have c5 := heap_alloc_new ((((w.alloc (.cells #[.pointer (some ⟨N, 0, none⟩)] 83)).alloc (.cells #[iV k] 3)).alloc (.cells #[iV o] 3)).alloc (.cells #[iV fr] 3)) (.cells #[iV till] 3)
  simp only [World.size_alloc] at c1 c3 c4 c5
  refine ⟨_, _, _, _, _, rfl, ⟨HN.out.below hb, ?_, ?_, ?_, ?_, ?_⟩, hb, ?_⟩
  · exact cell_of_row _ _ 0 _ _ _ ((Below.heap_alloc _ _ _ (by simp)).trans c1)
  · exact cell_of_row _ _ 0 _ _ _ ((Below.heap_alloc _ _ _ (by simp; omega)).trans ((Below.heap_alloc _ _ _ (by simp; omega)).trans ((Below.heap_alloc _ _ _ (by simp; omega)).trans ((Below.heap_alloc _ _ _ (by simp)).trans c2))))
  · exact cell_of_row _ _ 0 _ _ _ ((Below.heap_alloc _ _ _ (by simp)).trans ((Below.heap_alloc _ _ _ (by simp)).trans c3))
  · exact cell_of_row _ _ 0 _ _ _ ((Below.heap_alloc _ _ _ (by simp)).trans ((Below.heap_alloc _ _ _ (by simp)).trans ((Below.heap_alloc _ _ _ (by simp)).trans c4)))
  · exact cell_of_row _ _ 0 _ _ _ c5
  · intro b hb
    omega
set_option maxHeartbeats 1000000 in
set_option maxRecDepth 100000 in
theorem most_pan (q : Nat) (s : Value) (x : Int) (older : List PanicEntry) (w : World) (hq : w.cell? ⟨q, 0, none⟩ = some s) (hqf : w.frozen? ⟨q, 0, none⟩ = false) :
    CallsDIn Fence.wide 8 Tryz.prog 95 #[.pointer (some ⟨q, 0, none⟩)] (.panicking ({ v := .iface 44 (iV x), recovered := false } :: older)) w fun e u' w' =>
      e = .returned (.tuple #[]) ∧ u' = .panicking ({ v := .iface 44 (iV x), recovered := true } :: older) ∧ w' = w.setCell ⟨q, 0, none⟩ (iV (-1)) := by
  refine callsDIn_of_wpSIn Tryz.func95 rfl trivial fun c₀ cs hu => ?_
  apply wpSIn_seq
  apply wpSIn_region
  simp [wpOpsSIn, go_sem, recoverD, hu, Tryz.ntmps95, Exit.thenS]
  refine wpSIn_of_wpIn rfl (wpIn_wide.2 ?_)
  go_wp2_with fail
  simp [bodyPostS, results, Tryz.results95]
set_option maxHeartbeats 1000000 in
theorem most_idle (q : Nat) (w : World) :
    CallsDIn Fence.wide 8 Tryz.prog 95 #[.pointer (some ⟨q, 0, none⟩)] .returning w fun e u' w' => e = .returned (.tuple #[]) ∧ u' = .returning ∧ w' = w := by
  refine callsDIn_of_wpSIn Tryz.func95 rfl trivial fun c₀ cs hu => ?_
  apply wpSIn_seq
  apply wpSIn_region
  simp [wpOpsSIn, go_sem, recoverD, hu, Tryz.ntmps95, Exit.thenS]
  refine wpSIn_of_wpIn rfl (wpIn_wide.2 ?_)
  go_wp2_with fail
  cases c₀
  simp_all [bodyPostS, results, Tryz.results95]
theorem most_res {W : World} {X : Nat} {g : Int} (h : W.heap[X]? = some (.cells #[iV g] 3 (0, 0))) (tmps : Array Value) (h2 : tmps.getD 14 undef = .pointer (some ⟨X, 0, none⟩)) :
    (results Tryz.f64 tmps).run Tryz.prog W = .ok (iV g) W := by
  have e1 : (loadVar 3 ⟨X, 0, none⟩).run Tryz.prog W = .ok (iV g) W := by
    have := cell_of_row W _ 0 _ _ _ h
    simp [loadVar, go_sem, this]
  have h2' : tmps[14]?.getD undef = .pointer (some ⟨X, 0, none⟩) := by simpa using h2
  simp [results, Tryz.results64, asAddr, h2', e1]
/-- The greatest number of days among cut-offs; -1 where one fails. -/
def mostF (n : Net) (nx : List NsC) (k o d : Nat) : List Int → Int → Int
  | [], g => g
  | t :: l, g => match needR n nx k o d t with
    | some x => mostF n nx k o d l (max g x)
    | none => -1
def mostR (n : Net) (nx : List NsC) (k o d : Nat) (fr till : Int) : Int := mostF n nx k o d (cuts (calAt n o) (clsAt n k).cut (1440 * till) (1440 * fr)) (-1)
/-- The boxes of most. -/
structure MoS (w W : World) (X N : Nat) (A : Option Addr) (len c k o d : Nat) (g : Int) : Prop where
  bel : Below X w W
  p7 : W.heap[X]? = some (.cells #[.pointer (some ⟨N, 0, none⟩)] 83 (0, 0))
  p8 : W.heap[X + 1]? = some (.cells #[.slice A len c] 37 (0, 0))
  p9 : W.heap[X + 1 + 1]? = some (.cells #[iV k] 3 (0, 0))
  p10 : W.heap[X + 1 + 1 + 1]? = some (.cells #[iV o] 3 (0, 0))
  p11 : W.heap[X + 1 + 1 + 1 + 1]? = some (.cells #[iV d] 3 (0, 0))
  p14 : W.heap[X + 1 + 1 + 1 + 1 + 1]? = some (.cells #[iV g] 3 (0, 0))
theorem MoS.below {w W W' : World} {X N : Nat} {A : Option Addr} {len c k o d : Nat} {g : Int} (h : MoS w W X N A len c k o d g) (hb : Below W.heap.size W W') : MoS w W' X N A len c k o d g :=
  ⟨h.bel.trans (hb.mono (by have := block_lt h.p7; omega)), (hb.block _ (block_lt h.p7)).trans h.p7, (hb.block _ (block_lt h.p8)).trans h.p8, (hb.block _ (block_lt h.p9)).trans h.p9, (hb.block _ (block_lt h.p10)).trans h.p10, (hb.block _ (block_lt h.p11)).trans h.p11, (hb.block _ (block_lt h.p14)).trans h.p14⟩
theorem MoS.grown {w W W' : World} {X N : Nat} {A : Option Addr} {len c k o d : Nat} {g : Int} {r : Nat} (h : MoS w W X N A len c k o d g) (hb : W.grownBy W' (some r)) (hr : X + 1 + 1 + 1 + 1 + 1 < r) : MoS w W' X N A len c k o d g :=
  ⟨below_grown h.bel hb (by omega) (by have := block_lt h.p7; omega), (hb.block _ (block_lt h.p7) (by simp; omega)).trans h.p7, (hb.block _ (block_lt h.p8) (by simp; omega)).trans h.p8, (hb.block _ (block_lt h.p9) (by simp; omega)).trans h.p9, (hb.block _ (block_lt h.p10) (by simp; omega)).trans h.p10, (hb.block _ (block_lt h.p11) (by simp; omega)).trans h.p11, (hb.block _ (block_lt h.p14) (by simp; omega)).trans h.p14⟩
theorem MoS.set {w W : World} {X N : Nat} {A : Option Addr} {len c k o d : Nat} {g : Int} (h : MoS w W X N A len c k o d g) (y : Int) : MoS w (W.setCell ⟨X + 1 + 1 + 1 + 1 + 1, 0, none⟩ (iV y)) X N A len c k o d y :=
  ⟨h.bel.setCell (by simp; omega) _, row_other h.p7 (by omega) _ _, row_other h.p8 (by omega) _ _, row_other h.p9 (by omega) _ _, row_other h.p10 (by omega) _ _, row_other h.p11 (by omega) _ _, row_set h.p14 0 _⟩
theorem MoS.new (w : World) (N : Nat) (A : Option Addr) (len c k o d : Nat) (g : Int) : MoS w ((((((w.alloc (.cells #[.pointer (some ⟨N, 0, none⟩)] 83)).alloc (.cells #[.slice A len c] 37)).alloc (.cells #[iV k] 3)).alloc (.cells #[iV o] 3)).alloc (.cells #[iV d] 3)).alloc (.cells #[iV g] 3)) w.heap.size N A len c k o d g := by
  have c7 := heap_alloc_new w (.cells #[.pointer (some ⟨N, 0, none⟩)] 83)
  have c8 := heap_alloc_new (w.alloc (.cells #[.pointer (some ⟨N, 0, none⟩)] 83)) (.cells #[.slice A len c] 37)
  have c9 := heap_alloc_new ((w.alloc (.cells #[.pointer (some ⟨N, 0, none⟩)] 83)).alloc (.cells #[.slice A len c] 37)) (.cells #[iV k] 3)
  have c10 := heap_alloc_new (((w.alloc (.cells #[.pointer (some ⟨N, 0, none⟩)] 83)).alloc (.cells #[.slice A len c] 37)).alloc (.cells #[iV k] 3)) (.cells #[iV o] 3)
  have c11 := heap_alloc_new ((((w.alloc (.cells #[.pointer (some ⟨N, 0, none⟩)] 83)).alloc (.cells #[.slice A len c] 37)).alloc (.cells #[iV k] 3)).alloc (.cells #[iV o] 3)) (.cells #[iV d] 3)
  have c14 := heap_alloc_new (((((w.alloc (.cells #[.pointer (some ⟨N, 0, none⟩)] 83)).alloc (.cells #[.slice A len c] 37)).alloc (.cells #[iV k] 3)).alloc (.cells #[iV o] 3)).alloc (.cells #[iV d] 3)) (.cells #[iV g] 3)
  simp only [World.size_alloc] at c8 c9 c10 c11 c14
  refine ⟨((((((Below.refl _ w).alloc (Nat.le_refl _) _).alloc (by simp) _).alloc (by simp; omega) _).alloc (by simp; omega) _).alloc (by simp; omega) _).alloc (by simp; omega) _, ?_, ?_, ?_, ?_, ?_, c14⟩
  · exact (Below.heap_alloc _ _ _ (by simp <;> omega)).trans ((Below.heap_alloc _ _ _ (by simp <;> omega)).trans ((Below.heap_alloc _ _ _ (by simp <;> omega)).trans ((Below.heap_alloc _ _ _ (by simp <;> omega)).trans ((Below.heap_alloc _ _ _ (by simp)).trans c7))))
  · exact (Below.heap_alloc _ _ _ (by simp <;> omega)).trans ((Below.heap_alloc _ _ _ (by simp <;> omega)).trans ((Below.heap_alloc _ _ _ (by simp <;> omega)).trans ((Below.heap_alloc _ _ _ (by simp)).trans c8)))
  · exact (Below.heap_alloc _ _ _ (by simp <;> omega)).trans ((Below.heap_alloc _ _ _ (by simp <;> omega)).trans ((Below.heap_alloc _ _ _ (by simp)).trans c9))
  · exact (Below.heap_alloc _ _ _ (by simp <;> omega)).trans ((Below.heap_alloc _ _ _ (by simp)).trans c10)
  · exact (Below.heap_alloc _ _ _ (by simp)).trans c11
theorem MoS.six {w W : World} {X N : Nat} {A : Option Addr} {len c k o d : Nat} {g : Int} (h : MoS w W X N A len c k o d g) : X + 1 + 1 + 1 + 1 + 1 < W.heap.size := block_lt h.p14
/-- What a round keeps, what a panic leaves. -/
def MoI (w : World) (X N : Nat) (A : Option Addr) (len c : Nat) (n : Net) (nx : List NsC) (k o d : Nat) (L : List Int) (j : Nat) (W : World) : Prop := ∃ g, MoS w W X N A len c k o d g ∧ mostF n nx k o d L (-1) = mostF n nx k o d (L.drop j) g
def MoP (w : World) (X N : Nat) (A : Option Addr) (len c : Nat) (n : Net) (nx : List NsC) (k o d : Nat) (L : List Int) (ch : List PanicEntry) (W : World) : Prop := ∃ y g, ch = [{ v := .iface 44 (iV y), recovered := false }] ∧ MoS w W X N A len c k o d g ∧ mostF n nx k o d L (-1) = -1
theorem cutsF_mem (c : Cal) {m : Int} (h1 : 0 ≤ m) (h2 : m < 1440) (till : Int) : ∀ (f : Nat) (t x : Int), x ∈ cutsF c m till f t → t ≤ x ∧ x < till
  | 0, _, _, h => by cases h
  | f + 1, t, x, h => by
    unfold cutsF at h
    by_cases hc : (firstR c m t).2 = 0 ∧ (firstR c m t).1 < till
    · rw [if_pos hc] at h
      have h5 := firstR_in h1 h2 (c := c) (t := t) (x := (firstR c m t).1) (by rw [← hc.1])
      rcases List.mem_cons.1 h with rfl | h
      · exact ⟨h5.1, hc.2⟩
      · have := cutsF_mem c h1 h2 till f _ _ h
        omega
    · rw [if_neg hc] at h; cases h
theorem cuts_mem (c : Cal) {m : Int} (h1 : 0 ≤ m) (h2 : m < 1440) {till t x : Int} (h : x ∈ cuts c m till t) : t ≤ x ∧ x < till := cutsF_mem c h1 h2 till _ _ _ h
theorem mostF_step {n : Net} {nx : List NsC} {k o d : Nat} {L : List Int} {j : Nat} {t g : Int} (ht : L[j]? = some t) : (∀ x, needR n nx k o d t = some x → mostF n nx k o d (L.drop j) g = mostF n nx k o d (L.drop (j + 1)) (max g x)) ∧ (needR n nx k o d t = none → mostF n nx k o d (L.drop j) g = -1) := by
  obtain ⟨hj, rfl⟩ := List.getElem?_eq_some_iff.1 ht
  rw [List.drop_eq_getElem_cons hj]
  constructor
  · intro x hx
    rw [mostF, hx]
  · intro hx
    rw [mostF, hx]
/-- The cells that the round reads. -/
def moC (X N : Nat) (A : Option Addr) (len c k o d : Nat) (w' : World) : Prop := w'.cell? ⟨X, 0, none⟩ = some (.pointer (some ⟨N, 0, none⟩)) ∧ w'.cell? ⟨X + 1, 0, none⟩ = some (.slice A len c) ∧ w'.cell? ⟨X + 1 + 1, 0, none⟩ = some (iV k) ∧ w'.cell? ⟨X + 1 + 1 + 1, 0, none⟩ = some (iV o) ∧ w'.cell? ⟨X + 1 + 1 + 1 + 1, 0, none⟩ = some (iV d)
theorem MoS.cells {w W : World} {X N : Nat} {A : Option Addr} {len c k o d : Nat} {g : Int} (h : MoS w W X N A len c k o d g) : moC X N A len c k o d W :=
  ⟨cell_of_row _ _ 0 _ _ _ h.p7, cell_of_row _ _ 0 _ _ _ h.p8, cell_of_row _ _ 0 _ _ _ h.p9, cell_of_row _ _ 0 _ _ _ h.p10, cell_of_row _ _ 0 _ _ _ h.p11⟩
set_option maxHeartbeats 8000000 in
set_option maxRecDepth 100000 in
theorem most_any (N : Nat) (n : Net) (A : Option Addr) (c : Nat) (nx : List NsC) (k o d : Nat) (fr till : Int) (w : World) (hN : NetP w N n) (hT : Tab w A nx) (hG : Good n) (hF : Formed n nx) (hk : k < n.clss.length) (ho : o < n.offs.length) (hd : d < n.offs.length) (hf1 : 0 ≤ fr) (hf2 : fr ≤ 700) (ht1 : 0 ≤ till) (ht2 : till ≤ 700) :
    Calls Tryz.prog 64 #[.pointer (some ⟨N, 0, none⟩), .slice A nx.length c, iV k, iV o, iV d, iV fr, iV till] w fun e w' => e = .returned (iV (mostR n nx k o d fr till)) ∧ Below w.heap.size w w' := by
  have hmf : ∀ (fn : Fn) (first cap : Array Value) (w : World), (Instr.makeFunc fn first cap).run Tryz.prog w = .ok (.func fn first cap) w := fun _ _ _ _ => rfl
  refine calls_of_at Tryz.func64 rfl ?_
  simp only [Tryz.ntmps64, List.size_toArray, List.length_cons, List.length_nil, Nat.reduceAdd, Nat.reduceSub, Array.replicate_succ, Array.replicate_zero, List.push_toArray, List.append_toArray, List.nil_append, List.cons_append]
  have HN := Lib.hid hN; clear hN
  have HT := Lib.hid hT; clear hT
  have HG := Lib.hid hG; clear hG
  have HF := Lib.hid hF; clear hF
  have HM := Lib.hid (MoS.new w N A nx.length c k o d (-1))
  refine wpAt_seq (wpAt_of ?_)
  go_wp2
  refine wpAt_seq (wpAt_of ?_)
  go_wp2
  refine wpAt_seq (wpAt_of ?_)
  go_wp2
  refine wpAt_seq ?_
  refine wpAt_seq (wpAt_of ?_)
  go_wp2_with fail
  refine (cutoffs_any N n o k (1440 * fr) (1440 * till) _ (HN.out.below HM.out.bel)).mono ?_
  rintro e w2 ⟨P1, P2, P3, P4, P5, rfl, hcu, hb, hP⟩
  have HM2 := Lib.hid (HM.out.below hb)
  have HCU := Lib.hid hcu; clear hcu
  have hb2 := hb.size
  have hPX : ∀ b, b = P1 ∨ b = P2 ∨ b = P3 ∨ b = P4 ∨ b = P5 → w.heap.size + 1 + 1 + 1 + 1 + 1 < b := fun b hb => Nat.lt_of_lt_of_le HM.out.six (hP b hb)
  have HPX := Lib.hid hPX; clear hPX
  clear hb hb2 hP HM
  have HX6 := Lib.hid HM2.out.six
  have HBB : Hid (∀ b, cuB w P1 P2 P3 P4 P5 b → b < w2.heap.size) := fun b hb => by
    rcases hb with hb | hb | hb | hb | hb | hb
    · have := HX6.out; omega
    · rw [hb]; exact World.block_lt_of_cell? w2 _ HCU.out.b1
    · rw [hb]; exact World.block_lt_of_cell? w2 _ HCU.out.b2
    · rw [hb]; exact World.block_lt_of_cell? w2 _ HCU.out.b3
    · rw [hb]; exact World.block_lt_of_cell? w2 _ HCU.out.b4
    · rw [hb]; exact World.block_lt_of_cell? w2 _ HCU.out.b5
  have HS0 : Hid (Same0 w w2) := ⟨HM2.out.bel.size, fun b hb => HM2.out.bel.block b hb⟩
  go_wp2_with fail
  refine wpAt_block ?_
  generalize hL : cuts (calAt n o) (clsAt n k).cut (1440 * till) (1440 * fr) = L
  have HLL := Lib.hid hL; clear hL
  have hseq := cuts_seq w n N P1 P2 P3 P4 P5 o k (1440 * fr) (1440 * till) w2 HN.out HS0.out HG.out hk ho HCU.out (by omega) (by omega) (by omega)
  rw [HLL.out] at hseq
  have HSEQ := Lib.hid hseq; clear hseq
  generalize hX : w.heap.size = X at *
  have HX := Lib.hid hX; clear hX
  refine wp_seqP Tryz.func64 (gf := 129) (lb := #[.pointer (some ⟨P1, 0, none⟩), .pointer (some ⟨P2, 0, none⟩), .pointer (some ⟨P3, 0, none⟩), .pointer (some ⟨P4, 0, none⟩), .pointer (some ⟨P5, 0, none⟩)]) (by rfl) (fun _ _ => rfl) HSEQ.out HBB.out (fun _ => rfl)
    (MoI w X N A nx.length c n nx k o d L)
    (MoP w X N A nx.length c n nx k o d L)
    (fun j W W' r ⟨g, h1, h2⟩ hg hr => ⟨g, h1.grown hg (by have := HX6.out; omega), h2⟩)
    (fun j W W' ⟨g, h1, h2⟩ hb => ⟨g, h1.below hb, h2⟩)
    ⟨-1, HM2.out, rfl⟩
    (fun j => { tmps := #[.pointer (some ⟨N, 0, none⟩), .slice A nx.length c, iV k, iV o, iV d, iV fr, iV till, .pointer (some ⟨X, 0, none⟩), .pointer (some ⟨X + 1, 0, none⟩), .pointer (some ⟨X + 1 + 1, 0, none⟩), .pointer (some ⟨X + 1 + 1 + 1, 0, none⟩), .pointer (some ⟨X + 1 + 1 + 1 + 1, 0, none⟩), undef, undef, .pointer (some ⟨X + 1 + 1 + 1 + 1 + 1, 0, none⟩), iV (L.getD j 0), .func (.func 95) #[] #[.pointer (some ⟨X + 1 + 1 + 1 + 1 + 1, 0, none⟩)], .pointer (some ⟨N, 0, none⟩), iV k, iV o, iV fr, iV (1440 * fr), iV till, iV (1440 * till), .func (.func 129) #[] #[.pointer (some ⟨P1, 0, none⟩), .pointer (some ⟨P2, 0, none⟩), .pointer (some ⟨P3, 0, none⟩), .pointer (some ⟨P4, 0, none⟩), .pointer (some ⟨P5, 0, none⟩)], iV (L.getD j 0), undef, undef, undef, undef, undef, undef, undef, undef, undef, undef], defers := [] }) ?assign ?body ?pan ?done
  case assign =>
    intro l j W K hK
    unfold encI
    generalize L.getD j 0 = t at *
    gi_wp2
    exact hK
  case body =>
    rintro l j W hj ⟨g, hm, hmf2⟩ hsz
    have HMW := Lib.hid hm; clear hm
    have HMF := Lib.hid hmf2; clear hmf2
    generalize htt : L.getD j 0 = t
    have hc14 : W.drew.cell? ⟨X + 1 + 1 + 1 + 1 + 1, 0, none⟩ = some (iV g) := cell_of_row _ _ 0 _ _ _ HMW.out.p14
    refine wpIn_block ?_
    refine wp_region_roundP (S := moC X N A nx.length c k o d) (by kernel_rfl) (by kernel_rfl) (fun ⟨_, _, h⟩ => h) ?_
    have hHeld : moC X N A nx.length c k o d W.drew := HMW.out.cells
    refine wpAnyH_take (i := 1) (v := ?_) rfl (by kernel_rfl) (by kernel_rfl) (by kernel_rfl) (fun _ _ _ h => h) (Or.inl ⟨by kernel_rfl, ?_⟩) (by assumption) ?_
    rotate_left
    · (intro w hSw; (try unfold moC at hSw); go_simp; (try with_reducible rfl))
    refine wpAnyH_take (i := 2) (v := ?_) rfl (by kernel_rfl) (by kernel_rfl) (by kernel_rfl) (fun _ _ _ h => h) (Or.inl ⟨by kernel_rfl, ?_⟩) (by assumption) ?_
    rotate_left
    · (intro w hSw; (try unfold moC at hSw); go_simp; (try with_reducible rfl))
    refine wpAnyH_take (i := 3) (v := ?_) rfl (by kernel_rfl) (by kernel_rfl) (by kernel_rfl) (fun _ _ _ h => h) (Or.inl ⟨by kernel_rfl, ?_⟩) (by assumption) ?_
    rotate_left
    · (intro w hSw; (try unfold moC at hSw); go_simp; (try with_reducible rfl))
    refine wpAnyH_take (i := 4) (v := ?_) rfl (by kernel_rfl) (by kernel_rfl) (by kernel_rfl) (fun _ _ _ h => h) (Or.inl ⟨by kernel_rfl, ?_⟩) (by assumption) ?_
    rotate_left
    · (intro w hSw; (try unfold moC at hSw); go_simp; (try with_reducible rfl))
    refine wpAnyH_take (i := 5) (v := ?_) rfl (by kernel_rfl) (by kernel_rfl) (by kernel_rfl) (fun _ _ _ h => h) (Or.inl ⟨by kernel_rfl, ?_⟩) (by assumption) ?_
    rotate_left
    · (intro w hSw; (try unfold moC at hSw); go_simp; (try with_reducible rfl))
    refine wpAnyH_take (i := 6) (v := ?_) rfl (by kernel_rfl) (by kernel_rfl) (by kernel_rfl) (fun _ _ _ h => h) (Or.inl ⟨by kernel_rfl, ?_⟩) (by assumption) ?_
    rotate_left
    · (intro w hSw; (try unfold moC at hSw); go_simp; (try with_reducible rfl))
    have hmD : MoS w W.drew X N A nx.length c k o d g := HMW.out.below (b_drew (Below.refl _ _))
    have HMD := Lib.hid hmD; clear hmD
    have hNW : NetP W.drew N n := HN.out.below (by rw [HX.out]; exact HMD.out.bel)
    have hTW : Tab W.drew A nx := HT.out.below (by rw [HX.out]; exact HMD.out.bel)
    have HNW := Lib.hid hNW; clear hNW
    have HTW := Lib.hid hTW; clear hTW
    have hlj : L[j]? = some t := by
      rw [← htt]
      simp [List.getD, hj]
    have HST := Lib.hid (mostF_step (n := n) (nx := nx) (k := k) (o := o) (d := d) (g := g) hlj)
    have htr : 0 ≤ t ∧ t ≤ 3000000 := by
      have h1 := List.mem_of_getElem? hlj
      rw [← HLL.out] at h1
      have h2 := HG.out.cls _ (List.mem_of_getElem? (clsAt_get hk))
      have := cuts_mem _ h2.1 h2.2.1 h1
      omega
    clear hlj htt hj
    refine wpAnyH_ready (rs := [0, 7]) (by kernel_rfl) (by simp) ?_
    refine AllReadyH.cons rfl (fun K hK => ?ca) (AllReadyH.cons rfl (fun K hK => ?cb) AllReadyH.nil)
    case ca =>
      go_simp
      refine hK.out _ _ hHeld (fun _ => ?_)
      clear hK K
      refine wpAnyH_ready (rs := [7]) (by kernel_rfl) (by simp) ?_
      refine AllReadyH.cons rfl (fun K hK => ?_) AllReadyH.nil
      go_simp
      refine (days_any N n A c nx k o d t _ HNW.out HTW.out HG.out HF.out hk ho hd htr.1 htr.2).mono ?_
      rintro e w3 ⟨hb3, hr⟩
      have HM3 := Lib.hid (HMD.out.below hb3)
      have HKP : Hid (KeepP (fun b => b = w2.heap.size ∨ b = w2.heap.size + 1 ∨ cuB w P1 P2 P3 P4 P5 b) W w3) := fun b hb => hb3.block b (by
        show b < W.heap.size
        rcases hb with rfl | rfl | hb
        · omega
        · omega
        · have := HBB.out b hb; omega)
      have HSZ3 : Hid (W.heap.size ≤ w3.heap.size) := hb3.size
      clear hb3
      rcases hr with ⟨x, hx, rfl⟩ | ⟨hx, y, rfl⟩
      case inr =>
        have HP : Hid (MoP w X N A nx.length c n nx k o d L [{ v := .iface 44 (iV y), recovered := false }] w3) := ⟨y, g, rfl, HM3.out, HMF.out.trans (HST.out.2 hx)⟩
        go_wp2_with fail
        exact ⟨rfl, HKP.out, HP.out⟩
      case inl =>
        have HI : Hid (MoI w X N A nx.length c n nx k o d L (j + 1) (w3.setCell ⟨X + 1 + 1 + 1 + 1 + 1, 0, none⟩ (iV (max g x)))) := ⟨max g x, HM3.out.set _, HMF.out.trans (HST.out.1 x hx)⟩
        have HKP2 : Hid (KeepP (fun b => b = w2.heap.size ∨ b = w2.heap.size + 1 ∨ cuB w P1 P2 P3 P4 P5 b) W (w3.setCell ⟨X + 1 + 1 + 1 + 1 + 1, 0, none⟩ (iV (max g x)))) := fun b hb => (Below.heap_setCell _ _ _ _ (by
          show b ≠ X + 1 + 1 + 1 + 1 + 1
          have h1 := HX6.out
          rcases hb with rfl | rfl | hb | hb
          · omega
          · omega
          · have := HX.out; omega
          · have := HPX.out b hb; omega)).trans (HKP.out b hb)
        have hc3 : w3.cell? ⟨X + 1 + 1 + 1 + 1 + 1, 0, none⟩ = some (iV g) := cell_of_row _ _ 0 _ _ _ HM3.out.p14
        have hf3 : w3.frozen? ⟨X + 1 + 1 + 1 + 1 + 1, 0, none⟩ = false := frozen_row HM3.out.p14 0
        have HCS : Hid (moC X N A nx.length c k o d w3) := HM3.out.cells
        have HCS2 : Hid (moC X N A nx.length c k o d (w3.setCell ⟨X + 1 + 1 + 1 + 1 + 1, 0, none⟩ (iV (max g x)))) := (HM3.out.set _).cells
        clear hx hc14 hHeld
        go_wp2_with fail
        refine hK.out _ _ HCS.out (fun _ => ?_)
        clear hK K
        refine wpAnyH_ready (rs := [8]) (by kernel_rfl) (by simp) ?_
        refine AllReadyH.cons rfl (fun K hK => ?_) AllReadyH.nil
        go_simp
        have hmx : (if g < x then x else g) = max g x := by rw [Int.max_def]; split <;> split <;> omega
        rw [hmx]
        clear hmx
        refine hK.out _ _ HCS.out (fun _ => ?_)
        clear hK K
        refine wpAnyH_ready (rs := [9]) (by kernel_rfl) (by simp) ?_
        refine AllReadyH.cons rfl (fun K hK => ?_) AllReadyH.nil
        go_simp
        refine hK.out _ _ HCS2.out (fun _ => ?_)
        clear hK K
        refine wpAnyH_done (by kernel_rfl) ?_ _
        exact ⟨by simp; exact HSZ3.out, HKP2.out, HI.out⟩
    case cb =>
      go_simp
      refine (days_any N n A c nx k o d t _ HNW.out HTW.out HG.out HF.out hk ho hd htr.1 htr.2).mono ?_
      rintro e w3 ⟨hb3, hr⟩
      have HM3 := Lib.hid (HMD.out.below hb3)
      have HKP : Hid (KeepP (fun b => b = w2.heap.size ∨ b = w2.heap.size + 1 ∨ cuB w P1 P2 P3 P4 P5 b) W w3) := fun b hb => hb3.block b (by
        show b < W.heap.size
        rcases hb with rfl | rfl | hb
        · omega
        · omega
        · have := HBB.out b hb; omega)
      have HSZ3 : Hid (W.heap.size ≤ w3.heap.size) := hb3.size
      clear hb3
      rcases hr with ⟨x, hx, rfl⟩ | ⟨hx, y, rfl⟩
      case inr =>
        have HP : Hid (MoP w X N A nx.length c n nx k o d L [{ v := .iface 44 (iV y), recovered := false }] w3) := ⟨y, g, rfl, HM3.out, HMF.out.trans (HST.out.2 hx)⟩
        go_wp2_with fail
        exact ⟨rfl, HKP.out, HP.out⟩
      case inl =>
        have HI : Hid (MoI w X N A nx.length c n nx k o d L (j + 1) (w3.setCell ⟨X + 1 + 1 + 1 + 1 + 1, 0, none⟩ (iV (max g x)))) := ⟨max g x, HM3.out.set _, HMF.out.trans (HST.out.1 x hx)⟩
        have HKP2 : Hid (KeepP (fun b => b = w2.heap.size ∨ b = w2.heap.size + 1 ∨ cuB w P1 P2 P3 P4 P5 b) W (w3.setCell ⟨X + 1 + 1 + 1 + 1 + 1, 0, none⟩ (iV (max g x)))) := fun b hb => (Below.heap_setCell _ _ _ _ (by
          show b ≠ X + 1 + 1 + 1 + 1 + 1
          have h1 := HX6.out
          rcases hb with rfl | rfl | hb | hb
          · omega
          · omega
          · have := HX.out; omega
          · have := HPX.out b hb; omega)).trans (HKP.out b hb)
        have hc3 : w3.cell? ⟨X + 1 + 1 + 1 + 1 + 1, 0, none⟩ = some (iV g) := cell_of_row _ _ 0 _ _ _ HM3.out.p14
        have hf3 : w3.frozen? ⟨X + 1 + 1 + 1 + 1 + 1, 0, none⟩ = false := frozen_row HM3.out.p14 0
        have HCS : Hid (moC X N A nx.length c k o d w3) := HM3.out.cells
        have HCS2 : Hid (moC X N A nx.length c k o d (w3.setCell ⟨X + 1 + 1 + 1 + 1 + 1, 0, none⟩ (iV (max g x)))) := (HM3.out.set _).cells
        clear hx hc14 hHeld
        go_wp2_with fail
        refine hK.out _ _ HCS.out (fun _ => ?_)
        clear hK K
        refine wpAnyH_ready (rs := [0]) (by kernel_rfl) (by simp) ?_
        refine AllReadyH.cons rfl (fun K hK => ?_) AllReadyH.nil
        go_simp
        refine hK.out _ _ HCS.out (fun _ => ?_)
        clear hK K
        refine wpAnyH_ready (rs := [8]) (by kernel_rfl) (by simp) ?_
        refine AllReadyH.cons rfl (fun K hK => ?_) AllReadyH.nil
        go_simp
        have hmx : (if g < x then x else g) = max g x := by rw [Int.max_def]; split <;> split <;> omega
        rw [hmx]
        clear hmx
        refine hK.out _ _ HCS.out (fun _ => ?_)
        clear hK K
        refine wpAnyH_ready (rs := [9]) (by kernel_rfl) (by simp) ?_
        refine AllReadyH.cons rfl (fun K hK => ?_) AllReadyH.nil
        go_simp
        refine hK.out _ _ HCS2.out (fun _ => ?_)
        clear hK K
        refine wpAnyH_done (by kernel_rfl) ?_ _
        exact ⟨by simp; exact HSZ3.out, HKP2.out, HI.out⟩
  case pan =>
    rintro ch W ⟨y, g, rfl, hm, hmf2⟩ hd2
    have hm3 := hm.grown (r := w2.heap.size) (grownBy_putObj' W w2.heap.size (.deferred none)) HX6.out
    refine ⟨by simp, .inl ⟨_, _, rfl, run_takeDeferred hd2, ?_⟩⟩
    refine ⟨by simp, .inr ⟨fun h => (by cases h), _, _, 95, #[.pointer (some ⟨X + 1 + 1 + 1 + 1 + 1, 0, none⟩)], rfl, by simp [go_sem], fun _ _ => trivial, ?_⟩⟩
    refine CallsDIn.mono (most_pan (X + 1 + 1 + 1 + 1 + 1) _ y [] _ (cell_of_row _ _ 0 _ _ _ hm3.p14) (frozen_row hm3.p14 0)) ?_
    rintro e u' w'' ⟨rfl, rfl, rfl⟩
    have hm4 := hm3.set (-1)
    refine ⟨_, most_res hm4.p14 _ rfl, ?_, hm4.bel⟩
    unfold mostR
    rw [HLL.out, hmf2]
  case done =>
    rintro W ⟨g, hm, hmf2⟩ hd2
    have hc3 : W.cell? ⟨X + 1 + 1 + 1 + 1 + 1, 0, none⟩ = some (iV g) := cell_of_row _ _ 0 _ _ _ hm.p14
    have hf3 : W.frozen? ⟨X + 1 + 1 + 1 + 1 + 1, 0, none⟩ = false := frozen_row hm.p14 0
    have HMD := Lib.hid hm; clear hm
    have HMF := Lib.hid hmf2; clear hmf2
    have HD2 := Lib.hid hd2; clear hd2
    show wpAt _ _ _ _ _ _
    refine wpAt_seq (wpAt_of ?_)
    go_wp2
    refine wpAt_of ?_
    go_wp2
    have hm5 := HMD.out.set g
    have hd3 : (W.setCell ⟨X + 1 + 1 + 1 + 1 + 1, 0, none⟩ (iV g)).heap[w2.heap.size]? = some (.deferred (some [])) := (Below.heap_setCell _ _ _ _ (by show w2.heap.size ≠ X + 1 + 1 + 1 + 1 + 1; have := HX6.out; omega)).trans HD2.out
    have hm6 := hm5.grown (r := w2.heap.size) (grownBy_putObj' _ w2.heap.size (.deferred none)) HX6.out
    refine ⟨by simp, .inl ⟨_, _, rfl, run_takeDeferred hd3, ?_⟩⟩
    refine ⟨by simp, .inr ⟨fun h => (by cases h), _, _, 95, #[.pointer (some ⟨X + 1 + 1 + 1 + 1 + 1, 0, none⟩)], rfl, by simp [go_sem], fun _ _ => trivial, ?_⟩⟩
    refine CallsDIn.mono (most_idle (X + 1 + 1 + 1 + 1 + 1) _) ?_
    rintro e u' w'' ⟨rfl, rfl, rfl⟩
    refine ⟨_, most_res hm6.p14 _ rfl, ?_, hm6.bel⟩
    unfold mostR
    rw [HLL.out, HMF.out, List.drop_length]
    rfl
end Go.Proofs.YtjpabeoflhkfkaaGreatDoor
namespace Go.Proofs.YtjpabeoflhkfkaaGreatDoor
open Go.RowKit

/-- What is said of an element: it looks at blocks from B on alone. -/
structure Stable (Pr : Nat → Value → Nat → World → Prop) : Prop where
  keep : ∀ i v B w w', Pr i v B w → w.heap.size ≤ w'.heap.size → (∀ b, B ≤ b → b < w.heap.size → w'.heap[b]? = w.heap[b]?) → Pr i v B w'
  mono : ∀ i v B B' w, Pr i v B w → B' ≤ B → Pr i v B' w
def RowsR (w : World) (m : Nat) (Pr : Nat → Value → Nat → World → Prop) (e : Ending) (w' : World) : Prop :=
  ∃ g xs, e = .returned (.slice (some ⟨g, 0, none⟩) m m) ∧ w.heap.size ≤ g ∧ g < w'.heap.size ∧ Rd w' (some ⟨g, 0, none⟩) xs ∧ xs.length = m ∧ (∀ j < m, ∃ v, xs[j]? = some v ∧ Pr j v (g + 1) w') ∧ Below w.heap.size w w'
def FmI (v : Value) : Prop := ∃ y, v = iV y
def FmS (v : Value) : Prop := ∃ A m c, v = .slice A m c
/-- What the function value answers. -/
def ValF (Fm : Value → Prop) (f : FuncId) (cb : Array Value) (m : Nat) (Pr : Nat → Value → Nat → World → Prop) (w : World) : Prop :=
  ∀ i < m, ∀ w', Below w.heap.size w w' → Calls Tryz.prog f (#[iV i] ++ cb) w' fun e w2 => ∃ v, e = .returned v ∧ Fm v ∧ Pr i v w'.heap.size w2 ∧ Below w'.heap.size w' w2
theorem below_none {w w' : World} (h : w.grownBy w' none) : Below w.heap.size w w' := ⟨h.os, h.tape, h.output, h.size, fun i hi => h.block i hi (by simp)⟩
theorem info_int : (Tryz.prog.info? 3).map (fun i => (i.zero, i.size, i.bytes)) = some (some (iV 0), 1, 8) := by kernel_rfl
set_option maxHeartbeats 4000000 in
set_option maxRecDepth 100000 in
theorem rows_int (m : Nat) (f : FuncId) (cb : Array Value) (Pr : Nat → Value → Nat → World → Prop) (w : World) (hp : Stable Pr) (hv : ValF FmI f cb m Pr w) (hm : m ≤ 100) (eg : ∀ args w, (callFunc f args).run Tryz.prog w = .ok (.enter f args) w) :
    Calls Tryz.prog 62 #[iV m, .func (.func f) #[] cb] w (RowsR w m Pr) := by
  obtain ⟨i0, hi0, hz0, hz1, hz2⟩ := info_parts info_int
  have HP := Lib.hid hp; clear hp
  have HV := Lib.hid hv; clear hv
  go_enter Tryz.func62, Tryz.ntmps62
  go_wp2_with (refine wpList_make_full _ (by rfl) (.tmp 7) (.tmp 7) 25 (by rfl) w.heap.size 3 i0 _ 1 Tryz.underlying25 hi0 hz0 hz1 .i64 .i64 (m : Int) (m : Int) m (by rfl) (by rfl) rfl rfl (by rw [hz2]; omega) (by unfold maxLen; omega) (Nat.le_refl _) ?_; intro w1 ho hg; have HO := Lib.hid ho; have HB := Lib.hid (below_none hg); clear ho hg)
  generalize hX : w.heap.size = X at *
  have HX := Lib.hid hX; clear hX
  go_loopw [11] (fun i wr => ∃ (k : Nat) (xs : List Value), k ≤ m ∧ i = iV k ∧ Hid (wr.ownsRow X 3 1 (.slice (some ⟨X, 0, none⟩) m m) m xs) ∧ Hid (∀ j < k, ∃ v, xs[j]? = some v ∧ Pr j v (X + 1) wr) ∧ Hid (Below X w wr) ∧ Hid (X < wr.heap.size)) (fun i _ => m + 1 - (intOf i).toNat)
  case atStart =>
    have hlt : X < w1.heap.size := by
      rcases HO.out.2 with ⟨h, _⟩ | ⟨g, cap, cur, h, _, hg, _⟩
      · cases h
      · cases h
        exact block_lt hg
    exact ⟨0, _, by omega, rfl, HO.out, (fun j hj => by omega), HB.out, hlt⟩
  case round =>
    clear HO HB
    obtain ⟨k, xs, hk, rfl, HO, HQ, HB, HL⟩ := hrel
    have k0 : (0 : Int) ≤ (k : Int) := by omega
    by_cases hlt : k < m
    · have k1 : (k : Int) < (m : Int) := by omega
      go_wp2_with fail
      refine (HV.out k hlt _ (by rw [HX.out]; exact HB.out)).mono ?_
      rintro e w2 ⟨v, rfl, h1, hpr, hb⟩
      obtain ⟨vy, rfl⟩ := h1
      have HPR := Lib.hid hpr; clear hpr
      have HB2 := Lib.hid hb; clear hb
      have HO2 := Lib.hid (own_below HO.out HB2.out)
      have hlen := HO2.out.1
      obtain ⟨g, hge, -, hg2, hfz, hcell⟩ := own_blk HO2.out (by omega)
      cases hge
      obtain ⟨z0, hz0'⟩ : ∃ u, xs[k]? = some u := ⟨_, List.getElem?_eq_getElem (by omega)⟩
      have hck : w2.cell? ⟨X, k, none⟩ = some z0 := hcell k _ hz0'
      have hfk := hfz k
      have HO3 : Hid ((w2.setCell ⟨X, k, none⟩ (iV vy)).ownsRow X 3 1 (.slice (some ⟨X, 0, none⟩) m m) m (xs.set k (iV vy))) := own_store HO2.out k (iV vy)
      have HB3 : Hid (Below X w (w2.setCell ⟨X, k, none⟩ (iV vy))) := (HB.out.trans (HB2.out.mono (Nat.le_of_lt HL.out))).setCell (Nat.le_refl _) _
      have HL3 : Hid (X < (w2.setCell ⟨X, k, none⟩ (iV vy)).heap.size) := by show X < _; simp; exact hg2
      have HQ3 : Hid (∀ j < k + 1, ∃ u, (xs.set k (iV vy))[j]? = some u ∧ Pr j u (X + 1) (w2.setCell ⟨X, k, none⟩ (iV vy))) := fun j hj => by
        have hset : ∀ i u B, X + 1 ≤ B → Pr i u B w2 → Pr i u B (w2.setCell ⟨X, k, none⟩ (iV vy)) := fun i u B hB hu => HP.out.keep i u B _ _ hu (by simp) (fun b h1 h2 => Below.heap_setCell _ _ _ _ (by show b ≠ X; omega))
        by_cases hjk : j = k
        · subst hjk
          refine ⟨(iV vy), ?_, HP.out.mono _ _ _ _ _ (hset _ _ _ HL.out HPR.out) HL.out⟩
          rw [List.getElem?_set_self (by omega)]
        · obtain ⟨u, hu1, hu2⟩ := HQ.out j (by omega)
          refine ⟨u, by rw [List.getElem?_set_ne (by omega)]; exact hu1, hset _ _ _ (Nat.le_refl _) (HP.out.keep _ _ _ _ _ hu2 HB2.out.size (fun b _ h2 => HB2.out.block b h2))⟩
      clear hz0' hcell hfz HO HQ HB HL HO2 HPR HB2 hlen
      go_wp2
      go_roundw
      case rel => exact ⟨k + 1, xs.set k (iV vy), by omega, by go_num, HO3.out, HQ3.out, HB3.out, HL3.out⟩
      case measure => simp [intOf]; omega
    · have k1 : ¬ (k : Int) < (m : Int) := by omega
      go_wp2
      go_ret
      exact ⟨X, xs, rfl, by rw [HX.out]; exact Nat.le_refl _, HL.out, rd_own HO.out, by have := HO.out.1; omega, fun j hj => HQ.out j (by omega), by rw [HX.out]; exact HB.out⟩
theorem info_ints : (Tryz.prog.info? 25).map (fun i => (i.zero, i.size, i.bytes)) = some (some (.slice none 0 0), 1, 24) := by kernel_rfl
set_option maxHeartbeats 4000000 in
set_option maxRecDepth 100000 in
theorem rows_ints (m : Nat) (f : FuncId) (cb : Array Value) (Pr : Nat → Value → Nat → World → Prop) (w : World) (hp : Stable Pr) (hv : ValF FmS f cb m Pr w) (hm : m ≤ 100) (eg : ∀ args w, (callFunc f args).run Tryz.prog w = .ok (.enter f args) w) :
    Calls Tryz.prog 60 #[iV m, .func (.func f) #[] cb] w (RowsR w m Pr) := by
  obtain ⟨i0, hi0, hz0, hz1, hz2⟩ := info_parts info_ints
  have HP := Lib.hid hp; clear hp
  have HV := Lib.hid hv; clear hv
  go_enter Tryz.func60, Tryz.ntmps60
  go_wp2_with (refine wpList_make_full _ (by rfl) (.tmp 7) (.tmp 7) 37 (by rfl) w.heap.size 25 i0 _ 1 Tryz.underlying37 hi0 hz0 hz1 .i64 .i64 (m : Int) (m : Int) m (by rfl) (by rfl) rfl rfl (by rw [hz2]; omega) (by unfold maxLen; omega) (Nat.le_refl _) ?_; intro w1 ho hg; have HO := Lib.hid ho; have HB := Lib.hid (below_none hg); clear ho hg)
  generalize hX : w.heap.size = X at *
  have HX := Lib.hid hX; clear hX
  go_loopw [11] (fun i wr => ∃ (k : Nat) (xs : List Value), k ≤ m ∧ i = iV k ∧ Hid (wr.ownsRow X 25 1 (.slice (some ⟨X, 0, none⟩) m m) m xs) ∧ Hid (∀ j < k, ∃ v, xs[j]? = some v ∧ Pr j v (X + 1) wr) ∧ Hid (Below X w wr) ∧ Hid (X < wr.heap.size)) (fun i _ => m + 1 - (intOf i).toNat)
  case atStart =>
    have hlt : X < w1.heap.size := by
      rcases HO.out.2 with ⟨h, _⟩ | ⟨g, cap, cur, h, _, hg, _⟩
      · cases h
      · cases h
        exact block_lt hg
    exact ⟨0, _, by omega, rfl, HO.out, (fun j hj => by omega), HB.out, hlt⟩
  case round =>
    clear HO HB
    obtain ⟨k, xs, hk, rfl, HO, HQ, HB, HL⟩ := hrel
    have k0 : (0 : Int) ≤ (k : Int) := by omega
    by_cases hlt : k < m
    · have k1 : (k : Int) < (m : Int) := by omega
      go_wp2_with fail
      refine (HV.out k hlt _ (by rw [HX.out]; exact HB.out)).mono ?_
      rintro e w2 ⟨v, rfl, h1, hpr, hb⟩
      obtain ⟨vA, vm, vc, rfl⟩ := h1
      have HPR := Lib.hid hpr; clear hpr
      have HB2 := Lib.hid hb; clear hb
      have HO2 := Lib.hid (own_below HO.out HB2.out)
      have hlen := HO2.out.1
      obtain ⟨g, hge, -, hg2, hfz, hcell⟩ := own_blk HO2.out (by omega)
      cases hge
      obtain ⟨z0, hz0'⟩ : ∃ u, xs[k]? = some u := ⟨_, List.getElem?_eq_getElem (by omega)⟩
      have hck : w2.cell? ⟨X, k, none⟩ = some z0 := hcell k _ hz0'
      have hfk := hfz k
      have HO3 : Hid ((w2.setCell ⟨X, k, none⟩ (.slice vA vm vc)).ownsRow X 25 1 (.slice (some ⟨X, 0, none⟩) m m) m (xs.set k (.slice vA vm vc))) := own_store HO2.out k (.slice vA vm vc)
      have HB3 : Hid (Below X w (w2.setCell ⟨X, k, none⟩ (.slice vA vm vc))) := (HB.out.trans (HB2.out.mono (Nat.le_of_lt HL.out))).setCell (Nat.le_refl _) _
      have HL3 : Hid (X < (w2.setCell ⟨X, k, none⟩ (.slice vA vm vc)).heap.size) := by show X < _; simp; exact hg2
      have HQ3 : Hid (∀ j < k + 1, ∃ u, (xs.set k (.slice vA vm vc))[j]? = some u ∧ Pr j u (X + 1) (w2.setCell ⟨X, k, none⟩ (.slice vA vm vc))) := fun j hj => by
        have hset : ∀ i u B, X + 1 ≤ B → Pr i u B w2 → Pr i u B (w2.setCell ⟨X, k, none⟩ (.slice vA vm vc)) := fun i u B hB hu => HP.out.keep i u B _ _ hu (by simp) (fun b h1 h2 => Below.heap_setCell _ _ _ _ (by show b ≠ X; omega))
        by_cases hjk : j = k
        · subst hjk
          refine ⟨(.slice vA vm vc), ?_, HP.out.mono _ _ _ _ _ (hset _ _ _ HL.out HPR.out) HL.out⟩
          rw [List.getElem?_set_self (by omega)]
        · obtain ⟨u, hu1, hu2⟩ := HQ.out j (by omega)
          refine ⟨u, by rw [List.getElem?_set_ne (by omega)]; exact hu1, hset _ _ _ (Nat.le_refl _) (HP.out.keep _ _ _ _ _ hu2 HB2.out.size (fun b _ h2 => HB2.out.block b h2))⟩
      clear hz0' hcell hfz HO HQ HB HL HO2 HPR HB2 hlen
      go_wp2
      go_roundw
      case rel => exact ⟨k + 1, xs.set k (.slice vA vm vc), by omega, by go_num, HO3.out, HQ3.out, HB3.out, HL3.out⟩
      case measure => simp [intOf]; omega
    · have k1 : ¬ (k : Int) < (m : Int) := by omega
      go_wp2
      go_ret
      exact ⟨X, xs, rfl, by rw [HX.out]; exact Nat.le_refl _, HL.out, rd_own HO.out, by have := HO.out.1; omega, fun j hj => HQ.out j (by omega), by rw [HX.out]; exact HB.out⟩
theorem info_rows : (Tryz.prog.info? 37).map (fun i => (i.zero, i.size, i.bytes)) = some (some (.slice none 0 0), 1, 24) := by kernel_rfl
set_option maxHeartbeats 4000000 in
set_option maxRecDepth 100000 in
theorem rows_rows (m : Nat) (f : FuncId) (cb : Array Value) (Pr : Nat → Value → Nat → World → Prop) (w : World) (hp : Stable Pr) (hv : ValF FmS f cb m Pr w) (hm : m ≤ 100) (eg : ∀ args w, (callFunc f args).run Tryz.prog w = .ok (.enter f args) w) :
    Calls Tryz.prog 58 #[iV m, .func (.func f) #[] cb] w (RowsR w m Pr) := by
  obtain ⟨i0, hi0, hz0, hz1, hz2⟩ := info_parts info_rows
  have HP := Lib.hid hp; clear hp
  have HV := Lib.hid hv; clear hv
  go_enter Tryz.func58, Tryz.ntmps58
  go_wp2_with (refine wpList_make_full _ (by rfl) (.tmp 7) (.tmp 7) 38 (by rfl) w.heap.size 37 i0 _ 1 Tryz.underlying38 hi0 hz0 hz1 .i64 .i64 (m : Int) (m : Int) m (by rfl) (by rfl) rfl rfl (by rw [hz2]; omega) (by unfold maxLen; omega) (Nat.le_refl _) ?_; intro w1 ho hg; have HO := Lib.hid ho; have HB := Lib.hid (below_none hg); clear ho hg)
  generalize hX : w.heap.size = X at *
  have HX := Lib.hid hX; clear hX
  go_loopw [11] (fun i wr => ∃ (k : Nat) (xs : List Value), k ≤ m ∧ i = iV k ∧ Hid (wr.ownsRow X 37 1 (.slice (some ⟨X, 0, none⟩) m m) m xs) ∧ Hid (∀ j < k, ∃ v, xs[j]? = some v ∧ Pr j v (X + 1) wr) ∧ Hid (Below X w wr) ∧ Hid (X < wr.heap.size)) (fun i _ => m + 1 - (intOf i).toNat)
  case atStart =>
    have hlt : X < w1.heap.size := by
      rcases HO.out.2 with ⟨h, _⟩ | ⟨g, cap, cur, h, _, hg, _⟩
      · cases h
      · cases h
        exact block_lt hg
    exact ⟨0, _, by omega, rfl, HO.out, (fun j hj => by omega), HB.out, hlt⟩
  case round =>
    clear HO HB
    obtain ⟨k, xs, hk, rfl, HO, HQ, HB, HL⟩ := hrel
    have k0 : (0 : Int) ≤ (k : Int) := by omega
    by_cases hlt : k < m
    · have k1 : (k : Int) < (m : Int) := by omega
      go_wp2_with fail
      refine (HV.out k hlt _ (by rw [HX.out]; exact HB.out)).mono ?_
      rintro e w2 ⟨v, rfl, h1, hpr, hb⟩
      obtain ⟨vA, vm, vc, rfl⟩ := h1
      have HPR := Lib.hid hpr; clear hpr
      have HB2 := Lib.hid hb; clear hb
      have HO2 := Lib.hid (own_below HO.out HB2.out)
      have hlen := HO2.out.1
      obtain ⟨g, hge, -, hg2, hfz, hcell⟩ := own_blk HO2.out (by omega)
      cases hge
      obtain ⟨z0, hz0'⟩ : ∃ u, xs[k]? = some u := ⟨_, List.getElem?_eq_getElem (by omega)⟩
      have hck : w2.cell? ⟨X, k, none⟩ = some z0 := hcell k _ hz0'
      have hfk := hfz k
      have HO3 : Hid ((w2.setCell ⟨X, k, none⟩ (.slice vA vm vc)).ownsRow X 37 1 (.slice (some ⟨X, 0, none⟩) m m) m (xs.set k (.slice vA vm vc))) := own_store HO2.out k (.slice vA vm vc)
      have HB3 : Hid (Below X w (w2.setCell ⟨X, k, none⟩ (.slice vA vm vc))) := (HB.out.trans (HB2.out.mono (Nat.le_of_lt HL.out))).setCell (Nat.le_refl _) _
      have HL3 : Hid (X < (w2.setCell ⟨X, k, none⟩ (.slice vA vm vc)).heap.size) := by show X < _; simp; exact hg2
      have HQ3 : Hid (∀ j < k + 1, ∃ u, (xs.set k (.slice vA vm vc))[j]? = some u ∧ Pr j u (X + 1) (w2.setCell ⟨X, k, none⟩ (.slice vA vm vc))) := fun j hj => by
        have hset : ∀ i u B, X + 1 ≤ B → Pr i u B w2 → Pr i u B (w2.setCell ⟨X, k, none⟩ (.slice vA vm vc)) := fun i u B hB hu => HP.out.keep i u B _ _ hu (by simp) (fun b h1 h2 => Below.heap_setCell _ _ _ _ (by show b ≠ X; omega))
        by_cases hjk : j = k
        · subst hjk
          refine ⟨(.slice vA vm vc), ?_, HP.out.mono _ _ _ _ _ (hset _ _ _ HL.out HPR.out) HL.out⟩
          rw [List.getElem?_set_self (by omega)]
        · obtain ⟨u, hu1, hu2⟩ := HQ.out j (by omega)
          refine ⟨u, by rw [List.getElem?_set_ne (by omega)]; exact hu1, hset _ _ _ (Nat.le_refl _) (HP.out.keep _ _ _ _ _ hu2 HB2.out.size (fun b _ h2 => HB2.out.block b h2))⟩
      clear hz0' hcell hfz HO HQ HB HL HO2 HPR HB2 hlen
      go_wp2
      go_roundw
      case rel => exact ⟨k + 1, xs.set k (.slice vA vm vc), by omega, by go_num, HO3.out, HQ3.out, HB3.out, HL3.out⟩
      case measure => simp [intOf]; omega
    · have k1 : ¬ (k : Int) < (m : Int) := by omega
      go_wp2
      go_ret
      exact ⟨X, xs, rfl, by rw [HX.out]; exact Nat.le_refl _, HL.out, rd_own HO.out, by have := HO.out.1; omega, fun j hj => HQ.out j (by omega), by rw [HX.out]; exact HB.out⟩
end Go.Proofs.YtjpabeoflhkfkaaGreatDoor
namespace Go.Proofs.YtjpabeoflhkfkaaGreatDoor
open Go.RowKit

/-- Rows of numbers, tables, lists of tables that are read. -/
def PrI (val : Nat → Int) (i : Nat) (v : Value) (_ : Nat) (_ : World) : Prop := v = iV (val i)
def PrR (m : Nat) (val : Nat → Nat → Int) (i : Nat) (v : Value) (B : Nat) (w : World) : Prop :=
  ∃ g xs, v = .slice (some ⟨g, 0, none⟩) m m ∧ B ≤ g ∧ g < w.heap.size ∧ Rd w (some ⟨g, 0, none⟩) xs ∧ xs.length = m ∧ ∀ j < m, xs[j]? = some (iV (val i j))
def PrT (m : Nat) (val : Nat → Nat → Nat → Int) (i : Nat) (v : Value) (B : Nat) (w : World) : Prop :=
  ∃ g xs, v = .slice (some ⟨g, 0, none⟩) m m ∧ B ≤ g ∧ g < w.heap.size ∧ Rd w (some ⟨g, 0, none⟩) xs ∧ xs.length = m ∧ ∀ j < m, ∃ u, xs[j]? = some u ∧ PrR m (val i) j u (g + 1) w
theorem stable_I (val : Nat → Int) : Stable (PrI val) := ⟨fun _ _ _ _ _ h _ _ => h, fun _ _ _ _ _ h _ => h⟩
theorem stable_R (m : Nat) (val : Nat → Nat → Int) : Stable (PrR m val) := by
  refine ⟨fun i v B w w' h hs hk => ?_, fun i v B B' w h hb => ?_⟩
  · obtain ⟨g, xs, h1, h2, h3, h4, h5, h6⟩ := h
    exact ⟨g, xs, h1, h2, by omega, h4.same hs (fun a ha _ => by cases ha; exact hk g h2 h3), h5, h6⟩
  · obtain ⟨g, xs, h1, h2, h3⟩ := h
    exact ⟨g, xs, h1, by omega, h3⟩
theorem stable_T (m : Nat) (val : Nat → Nat → Nat → Int) : Stable (PrT m val) := by
  refine ⟨fun i v B w w' h hs hk => ?_, fun i v B B' w h hb => ?_⟩
  · obtain ⟨g, xs, h1, h2, h3, h4, h5, h6⟩ := h
    refine ⟨g, xs, h1, h2, by omega, h4.same hs (fun a ha _ => by cases ha; exact hk g h2 h3), h5, fun j hj => ?_⟩
    obtain ⟨u, hu, hr⟩ := h6 j hj
    exact ⟨u, hu, (stable_R m (val i)).keep _ _ _ _ _ hr hs (fun b hb => hk b (by omega))⟩
  · obtain ⟨g, xs, h1, h2, h3⟩ := h
    exact ⟨g, xs, h1, by omega, h3⟩
/-- What the closures read. -/
structure TbS (w : World) (n : Net) (nx : List NsC) (A : Option Addr) (c N Bn Bf Bt : Nat) (fr till : Int) : Prop where
  net : NetP w N n
  tab : Tab w A nx
  bn : w.cell? ⟨Bn, 0, none⟩ = some (.slice A nx.length c)
  bf : w.cell? ⟨Bf, 0, none⟩ = some (iV fr)
  bt : w.cell? ⟨Bt, 0, none⟩ = some (iV till)
theorem cell_below {w w' : World} (hb : Below w.heap.size w w') {b : Nat} {v : Value} (h : w.cell? ⟨b, 0, none⟩ = some v) : w'.cell? ⟨b, 0, none⟩ = some v := (hb.cell (p := ⟨b, 0, none⟩) (World.block_lt_of_cell? w _ h)).trans h
theorem TbS.below {w w' : World} {n : Net} {nx : List NsC} {A : Option Addr} {c N Bn Bf Bt : Nat} {fr till : Int} (h : TbS w n nx A c N Bn Bf Bt fr till) (hb : Below w.heap.size w w') : TbS w' n nx A c N Bn Bf Bt fr till :=
  ⟨h.net.below hb, h.tab.below hb, cell_below hb h.bn, cell_below hb h.bf, cell_below hb h.bt⟩
set_option maxHeartbeats 4000000 in
set_option maxRecDepth 100000 in
theorem tab3_any (n : Net) (nx : List NsC) (A : Option Addr) (c N Bn Bc Bo Bf Bt k o : Nat) (fr till : Int) (w : World) (h : TbS w n nx A c N Bn Bf Bt fr till) (hc : w.cell? ⟨Bc, 0, none⟩ = some (iV k)) (hoo : w.cell? ⟨Bo, 0, none⟩ = some (iV o)) (hG : Good n) (hF : Formed n nx) (hk : k < n.clss.length) (ho : o < n.offs.length) (hf1 : 0 ≤ fr) (hf2 : fr ≤ 700) (ht1 : 0 ≤ till) (ht2 : till ≤ 700) :
    ValF FmI 63 #[.pointer (some ⟨N, 0, none⟩), .pointer (some ⟨Bn, 0, none⟩), .pointer (some ⟨Bc, 0, none⟩), .pointer (some ⟨Bo, 0, none⟩), .pointer (some ⟨Bf, 0, none⟩), .pointer (some ⟨Bt, 0, none⟩)] n.offs.length (PrI fun d => mostR n nx k o d fr till) w := by
  intro d hd w' hb
  have HT := Lib.hid (h.below hb)
  have x1 := (h.below hb).bn
  have x2 := (h.below hb).bf
  have x3 := (h.below hb).bt
  have x4 := cell_below hb hc
  have x5 := cell_below hb hoo
  have HG := Lib.hid hG; clear hG
  have HF := Lib.hid hF; clear hF
  clear h hb hc hoo
  show Calls _ _ #[iV d, .pointer (some ⟨N, 0, none⟩), .pointer (some ⟨Bn, 0, none⟩), .pointer (some ⟨Bc, 0, none⟩), .pointer (some ⟨Bo, 0, none⟩), .pointer (some ⟨Bf, 0, none⟩), .pointer (some ⟨Bt, 0, none⟩)] _ _
  go_enter Tryz.func63, Tryz.ntmps63
  go_wp2_with fail
  refine (most_any N n A c nx k o d fr till _ HT.out.net HT.out.tab HG.out HF.out hk ho hd hf1 hf2 ht1 ht2).mono ?_
  rintro e w1 ⟨rfl, hb⟩
  have HB := Lib.hid hb; clear hb
  go_wp2_with fail
  go_ret
  exact ⟨iV (mostR n nx k o d fr till), rfl, ⟨_, rfl⟩, rfl, HB.out⟩
set_option maxHeartbeats 4000000 in
set_option maxRecDepth 100000 in
theorem tab2_any (n : Net) (nx : List NsC) (A : Option Addr) (c N Bn Bc Bf Bt k : Nat) (fr till : Int) (w : World) (h : TbS w n nx A c N Bn Bf Bt fr till) (hc : w.cell? ⟨Bc, 0, none⟩ = some (iV k)) (hG : Good n) (hF : Formed n nx) (hk : k < n.clss.length) (hf1 : 0 ≤ fr) (hf2 : fr ≤ 700) (ht1 : 0 ≤ till) (ht2 : till ≤ 700) :
    ValF FmS 61 #[.pointer (some ⟨N, 0, none⟩), .pointer (some ⟨Bn, 0, none⟩), .pointer (some ⟨Bc, 0, none⟩), .pointer (some ⟨Bf, 0, none⟩), .pointer (some ⟨Bt, 0, none⟩)] n.offs.length (PrR n.offs.length fun o d => mostR n nx k o d fr till) w := by
  intro o ho w' hb
  have hb1 := ba w' (.cells #[iV o] 3)
  have HT := Lib.hid ((h.below hb).below hb1)
  have HC := Lib.hid (cell_below hb1 (cell_below hb hc))
  have x0 : (w'.alloc (.cells #[iV o] 3)).cell? ⟨w'.heap.size, 0, none⟩ = some (iV o) := cell_of_row _ _ 0 _ _ _ (heap_alloc_new _ _)
  have n3 : (w'.alloc (.cells #[iV o] 3)).cell? ⟨N, 3, none⟩ = some (.slice n.offA n.offs.length n.offC) := HT.out.net.box 3 _ rfl
  have HX0 := Lib.hid x0; clear x0
  have HB1 := Lib.hid hb1
  have HG := Lib.hid hG; clear hG
  have HF := Lib.hid hF; clear hF
  clear h hb hc hb1
  show Calls _ _ #[iV o, .pointer (some ⟨N, 0, none⟩), .pointer (some ⟨Bn, 0, none⟩), .pointer (some ⟨Bc, 0, none⟩), .pointer (some ⟨Bf, 0, none⟩), .pointer (some ⟨Bt, 0, none⟩)] _ _
  go_enter Tryz.func61, Tryz.ntmps61
  go_wp2_with fail
  refine (rows_int n.offs.length 63 _ _ _ (stable_I _) (tab3_any n nx A c N Bn Bc w'.heap.size Bf Bt k o fr till _ HT.out HC.out HX0.out HG.out HF.out hk ho hf1 hf2 ht1 ht2) (by have := HG.out.few.2.1; omega) (fun _ _ => rfl)).mono ?_
  rintro e w1 ⟨g, xs, rfl, hg1, hg2, hrd, hlen, hxs, hb⟩
  have HB := Lib.hid (bt HB1.out hb); clear hb
  have HR : Hid (PrR n.offs.length (fun o d => mostR n nx k o d fr till) o (.slice (some ⟨g, 0, none⟩) n.offs.length n.offs.length) w'.heap.size w1) :=
    ⟨g, xs, rfl, Nat.le_trans HB1.out.size hg1, hg2, hrd, hlen, fun j hj => by obtain ⟨v, h1, h2⟩ := hxs j hj; rw [h1]; exact congrArg some h2⟩
  clear hrd hlen hxs hg1 hg2
  go_wp2_with fail
  go_ret
  exact ⟨_, rfl, ⟨_, _, _, rfl⟩, HR.out, HB.out⟩
set_option maxHeartbeats 4000000 in
set_option maxRecDepth 100000 in
theorem tab1_any (n : Net) (nx : List NsC) (A : Option Addr) (c N Bn Bf Bt : Nat) (fr till : Int) (w : World) (h : TbS w n nx A c N Bn Bf Bt fr till) (hG : Good n) (hF : Formed n nx) (hf1 : 0 ≤ fr) (hf2 : fr ≤ 700) (ht1 : 0 ≤ till) (ht2 : till ≤ 700) :
    ValF FmS 59 #[.pointer (some ⟨N, 0, none⟩), .pointer (some ⟨Bn, 0, none⟩), .pointer (some ⟨Bf, 0, none⟩), .pointer (some ⟨Bt, 0, none⟩)] n.clss.length (PrT n.offs.length fun k o d => mostR n nx k o d fr till) w := by
  intro k hk w' hb
  have hb1 := ba w' (.cells #[iV k] 3)
  have HT := Lib.hid ((h.below hb).below hb1)
  have x0 : (w'.alloc (.cells #[iV k] 3)).cell? ⟨w'.heap.size, 0, none⟩ = some (iV k) := cell_of_row _ _ 0 _ _ _ (heap_alloc_new _ _)
  have n3 : (w'.alloc (.cells #[iV k] 3)).cell? ⟨N, 3, none⟩ = some (.slice n.offA n.offs.length n.offC) := HT.out.net.box 3 _ rfl
  have HX0 := Lib.hid x0; clear x0
  have HB1 := Lib.hid hb1
  have HG := Lib.hid hG; clear hG
  have HF := Lib.hid hF; clear hF
  clear h hb hb1
  show Calls _ _ #[iV k, .pointer (some ⟨N, 0, none⟩), .pointer (some ⟨Bn, 0, none⟩), .pointer (some ⟨Bf, 0, none⟩), .pointer (some ⟨Bt, 0, none⟩)] _ _
  go_enter Tryz.func59, Tryz.ntmps59
  go_wp2_with fail
  refine (rows_ints n.offs.length 61 _ _ _ (stable_R _ _) (tab2_any n nx A c N Bn w'.heap.size Bf Bt k fr till _ HT.out HX0.out HG.out HF.out hk hf1 hf2 ht1 ht2) (by have := HG.out.few.2.1; omega) (fun _ _ => rfl)).mono ?_
  rintro e w1 ⟨g, xs, rfl, hg1, hg2, hrd, hlen, hxs, hb⟩
  have HB := Lib.hid (bt HB1.out hb); clear hb
  have HR : Hid (PrT n.offs.length (fun k o d => mostR n nx k o d fr till) k (.slice (some ⟨g, 0, none⟩) n.offs.length n.offs.length) w'.heap.size w1) :=
    ⟨g, xs, rfl, Nat.le_trans HB1.out.size hg1, hg2, hrd, hlen, hxs⟩
  clear hrd hlen hxs hg1 hg2
  go_wp2_with fail
  go_ret
  exact ⟨_, rfl, ⟨_, _, _, rfl⟩, HR.out, HB.out⟩
/-- What Table leaves: a table of promises that is read. -/
def TableR (w : World) (n : Net) (nx : List NsC) (fr till : Int) (e : Ending) (w' : World) : Prop :=
  ∃ g xs, e = .returned (.slice (some ⟨g, 0, none⟩) n.clss.length n.clss.length) ∧ w.heap.size ≤ g ∧ g < w'.heap.size ∧ Rd w' (some ⟨g, 0, none⟩) xs ∧ xs.length = n.clss.length ∧ (∀ k < n.clss.length, ∃ v, xs[k]? = some v ∧ PrT n.offs.length (fun k o d => mostR n nx k o d fr till) k v (g + 1) w') ∧ Below w.heap.size w w'
set_option maxHeartbeats 4000000 in
set_option maxRecDepth 100000 in
theorem table_any (n : Net) (A : Option Addr) (c : Nat) (nx : List NsC) (fr till : Int) (w : World) (hn : NetIn w n) (hT : Tab w A nx) (hx : nx.length ≤ maxLen) (hk : KW w) (hs : Sound n) (hF : Formed n nx) (h1 : 0 ≤ fr) (h2 : fr < till) (h3 : till ≤ 600) (h4 : till - fr ≤ 60) :
    Calls Tryz.prog 21 #[netV n, .slice A nx.length c, iV fr, iV till] w (TableR w n nx fr till) := by
  have hb : Below w.heap.size w ((((w.alloc (netO n)).alloc (.cells #[.slice A nx.length c] 37)).alloc (.cells #[iV fr] 3)).alloc (.cells #[iV till] 3)) := ((((Below.refl _ w).alloc (Nat.le_refl _) _).alloc (by simp) _).alloc (by simp; omega) _).alloc (by simp; omega) _
  have hx0 : ((((w.alloc (netO n)).alloc (.cells #[.slice A nx.length c] 37)).alloc (.cells #[iV fr] 3)).alloc (.cells #[iV till] 3)).heap[w.heap.size]? = some (netO n) := (Below.heap_alloc _ _ _ (by simp <;> omega)).trans ((Below.heap_alloc _ _ _ (by simp <;> omega)).trans ((Below.heap_alloc _ _ _ (by simp)).trans (heap_alloc_new _ _)))
  have hx1 : ((((w.alloc (netO n)).alloc (.cells #[.slice A nx.length c] 37)).alloc (.cells #[iV fr] 3)).alloc (.cells #[iV till] 3)).heap[w.heap.size + 1]? = some (.cells #[.slice A nx.length c] 37) := by
    have := heap_alloc_new (w.alloc (netO n)) (.cells #[.slice A nx.length c] 37)
    rw [World.size_alloc] at this
    exact (Below.heap_alloc _ _ _ (by simp <;> omega)).trans ((Below.heap_alloc _ _ _ (by simp)).trans this)
  have hx2 : ((((w.alloc (netO n)).alloc (.cells #[.slice A nx.length c] 37)).alloc (.cells #[iV fr] 3)).alloc (.cells #[iV till] 3)).heap[w.heap.size + 1 + 1]? = some (.cells #[iV fr] 3) := by
    have := heap_alloc_new ((w.alloc (netO n)).alloc (.cells #[.slice A nx.length c] 37)) (.cells #[iV fr] 3)
    rw [World.size_alloc, World.size_alloc] at this
    exact (Below.heap_alloc _ _ _ (by simp)).trans this
  have hx3 : ((((w.alloc (netO n)).alloc (.cells #[.slice A nx.length c] 37)).alloc (.cells #[iV fr] 3)).alloc (.cells #[iV till] 3)).heap[w.heap.size + 1 + 1 + 1]? = some (.cells #[iV till] 3) := by
    have := heap_alloc_new (((w.alloc (netO n)).alloc (.cells #[.slice A nx.length c] 37)).alloc (.cells #[iV fr] 3)) (.cells #[iV till] 3)
    simpa only [World.size_alloc] using this
  have HTB : Hid (TbS ((((w.alloc (netO n)).alloc (.cells #[.slice A nx.length c] 37)).alloc (.cells #[iV fr] 3)).alloc (.cells #[iV till] 3)) n nx A c w.heap.size (w.heap.size + 1) (w.heap.size + 1 + 1) (w.heap.size + 1 + 1 + 1) fr till) :=
    ⟨⟨fun i v hv => (cell_of_row _ _ _ _ _ _ hx0).trans hv, hn.below hb⟩, hT.below hb, cell_of_row _ _ 0 _ _ _ hx1, cell_of_row _ _ 0 _ _ _ hx2, cell_of_row _ _ 0 _ _ _ hx3⟩
  have HLL := Lib.hid hn.lens
  have HX := Lib.hid hx
  have HK := Lib.hid (hk.below hb)
  have HB := Lib.hid hb
  have HS := Lib.hid hs
  have HF := Lib.hid hF
  clear hb hx0 hx1 hx2 hx3 hn hT hx hk hs hF
  go_enter Tryz.func21, Tryz.ntmps21
  go_upto_region 1 with fail
  change Code.wp _ _ _ _ ((((w.alloc (netO n)).alloc (.cells #[.slice A nx.length c] 37)).alloc (.cells #[iV fr] 3)).alloc (.cells #[iV till] 3))
  generalize ((((w.alloc (netO n)).alloc (.cells #[.slice A nx.length c] 37)).alloc (.cells #[iV fr] 3)).alloc (.cells #[iV till] 3)) = W at *
  have x1 := HTB.out.bn
  have x2 := HTB.out.bf
  have x3 := HTB.out.bt
  have g1 : ¬ fr < 0 := by omega
  have g2 : ¬ till ≤ fr := by omega
  have g3 : ¬ (600 : Int) < till := by omega
  have g4 : ¬ (60 : Int) < till - fr := by omega
  go_wp2_with fail
  refine (sound_yes _ n _ HTB.out.net HK.out HS.out).mono ?_
  rintro e w1 ⟨rfl, hb⟩
  have HTB1 := Lib.hid (HTB.out.below hb)
  have HB1 := Lib.hid (bt HB.out hb)
  clear hb x1 x2 x3 HTB HB
  have x1 := HTB1.out.bn
  go_wp2_with fail
  refine (formed_any _ n A c nx _ HTB1.out.net HTB1.out.tab HX.out HLL.out.2.2.2.1 HLL.out.2.2.2.2.1).mono ?_
  rintro e w2 ⟨rfl, hb⟩
  rw [formB_true.2 HF.out]
  have HTB2 := Lib.hid (HTB1.out.below hb)
  have HB2 := Lib.hid (bt HB1.out hb)
  clear hb x1 HTB1 HB1
  have n5 : w2.cell? ⟨w.heap.size, 5, none⟩ = some (.slice n.clsA n.clss.length n.clsC) := HTB2.out.net.box 5 _ rfl
  go_wp2_with fail
  refine (rows_rows n.clss.length 59 _ _ _ (stable_T _ _) (tab1_any n nx A c w.heap.size (w.heap.size + 1) (w.heap.size + 1 + 1) (w.heap.size + 1 + 1 + 1) fr till _ HTB2.out HS.out.1.good HF.out h1 (by omega) (by omega) (by omega)) (by have := HS.out.1.cls.1; omega) (fun _ _ => rfl)).mono ?_
  rintro e w3 ⟨g, xs, rfl, hg1, hg2, hrd, hlen, hxs, hb⟩
  have HB3 := Lib.hid (bt HB2.out hb)
  have HR : Hid (TableR w n nx fr till (.returned (.slice (some ⟨g, 0, none⟩) n.clss.length n.clss.length)) w3) := ⟨g, xs, rfl, Nat.le_trans HB2.out.size hg1, hg2, hrd, hlen, hxs, HB3.out⟩
  clear hg1 hg2 hrd hlen hxs hb n5
  go_wp2_with fail
  go_ret
  exact HR.out
end Go.Proofs.YtjpabeoflhkfkaaGreatDoor
namespace Go.Proofs.YtjpabeoflhkfkaaGreatDoor
open Go.RowKit

/-- A table of promises that is read. -/
def Tb3 (w : World) (g : Nat) (n : Net) (val : Nat → Nat → Nat → Int) : Prop :=
  ∃ xs, Rd w (some ⟨g, 0, none⟩) xs ∧ xs.length = n.clss.length ∧ g < w.heap.size ∧ ∀ k < n.clss.length, ∃ v, xs[k]? = some v ∧ PrT n.offs.length val k v (g + 1) w
theorem Tb3.below {w w' : World} {g : Nat} {n : Net} {val : Nat → Nat → Nat → Int} (h : Tb3 w g n val) (hb : Below w.heap.size w w') : Tb3 w' g n val := by
  obtain ⟨xs, h1, h2, h3, h4⟩ := h
  refine ⟨xs, h1.below hb, h2, Nat.lt_of_lt_of_le h3 hb.size, fun k hk => ?_⟩
  obtain ⟨v, hv, hp⟩ := h4 k hk
  exact ⟨v, hv, (stable_T _ _).keep _ _ _ _ _ hp hb.size (fun b _ h => hb.block b h)⟩
/-- The cells of one promise. -/
theorem Tb3.at {w : World} {g : Nat} {n : Net} {val : Nat → Nat → Nat → Int} (h : Tb3 w g n val) {k o d : Nat} (hk : k < n.clss.length) (ho : o < n.offs.length) (hd : d < n.offs.length) :
    ∃ g2 g3, w.cell? ⟨g, k, none⟩ = some (.slice (some ⟨g2, 0, none⟩) n.offs.length n.offs.length) ∧ w.cell? ⟨g2, o, none⟩ = some (.slice (some ⟨g3, 0, none⟩) n.offs.length n.offs.length) ∧ w.cell? ⟨g3, d, none⟩ = some (iV (val k o d)) ∧ g < w.heap.size ∧ g2 < w.heap.size ∧ g3 < w.heap.size := by
  obtain ⟨xs, h1, h2, h3, h4⟩ := h
  obtain ⟨v, hv, g2, ys, rfl, -, hg2, hr2, hl2, hy⟩ := h4 k hk
  obtain ⟨u, hu, g3, zs, rfl, -, hg3, hr3, hl3, hz⟩ := hy o ho
  have c1 := h1.cell (i := k) (by omega)
  have c2 := hr2.cell (i := o) (by omega)
  have c3 := hr3.cell (i := d) (by omega)
  have hz' := hz d hd
  rw [List.getElem?_eq_getElem (by omega)] at hv hu hz'
  rw [Option.some.inj hv] at c1
  rw [Option.some.inj hu] at c2
  rw [Option.some.inj hz'] at c3
  exact ⟨g2, g3, by simpa using c1, by simpa using c2, by simpa using c3, h3, hg2, hg3⟩
abbrev postV (lab : List UInt8) (o d k acc : Int) : Value := .agg #[sV lab, iV o, iV d, iV k, iV acc]
/-- The world behind Due's boxes and results. -/
structure Wd3 (w W : World) (X : Nat) (lab : List UInt8) (o d k acc : Int) (s y : Value) : Prop where
  bel : Below X w W
  post : W.heap[X + 1]? = some (.cells #[sV lab, iV o, iV d, iV k, iV acc] 66 (0, 0))
  res : W.heap[X + 1 + 1]? = some (.cells #[s] 3 (0, 0))
  err : W.heap[X + 1 + 1 + 1]? = some (.cells #[y] 44 (0, 0))
theorem Wd3.below {w W W' : World} {X : Nat} {lab : List UInt8} {o d k acc : Int} {s y : Value} (h : Wd3 w W X lab o d k acc s y) (hb : Below W.heap.size W W') : Wd3 w W' X lab o d k acc s y :=
  ⟨h.bel.trans (hb.mono (by have := block_lt h.post; omega)), (hb.block _ (block_lt h.post)).trans h.post, (hb.block _ (block_lt h.res)).trans h.res, (hb.block _ (block_lt h.err)).trans h.err⟩
theorem Wd3.new (w : World) (n : Net) (lab : List UInt8) (o d k acc : Int) : Wd3 w ((((w.alloc (netO n)).alloc (.cells #[sV lab, iV o, iV d, iV k, iV acc] 66)).alloc (.cells #[iV 0] 3)).alloc (.cells #[iV 0] 44)) w.heap.size lab o d k acc (iV 0) (iV 0) := by
  have c1 := heap_alloc_new (w.alloc (netO n)) (.cells #[sV lab, iV o, iV d, iV k, iV acc] 66)
  have c2 := heap_alloc_new ((w.alloc (netO n)).alloc (.cells #[sV lab, iV o, iV d, iV k, iV acc] 66)) (.cells #[iV 0] 3)
  have c3 := heap_alloc_new (((w.alloc (netO n)).alloc (.cells #[sV lab, iV o, iV d, iV k, iV acc] 66)).alloc (.cells #[iV 0] 3)) (.cells #[iV 0] 44)
  simp only [World.size_alloc] at c1 c2 c3
  exact ⟨((((Below.refl _ w).alloc (Nat.le_refl _) _).alloc (by simp) _).alloc (by simp; omega) _).alloc (by simp; omega) _, (Below.heap_alloc _ _ _ (by simp <;> omega)).trans ((Below.heap_alloc _ _ _ (by simp)).trans c1), (Below.heap_alloc _ _ _ (by simp)).trans c2, c3⟩
theorem Wd3.set {w W : World} {X : Nat} {lab : List UInt8} {o d k acc : Int} {s y : Value} (h : Wd3 w W X lab o d k acc s y) (s' y' : Value) : Wd3 w ((W.setCell ⟨X + 1 + 1, 0, none⟩ s').setCell ⟨X + 1 + 1 + 1, 0, none⟩ y') X lab o d k acc s' y' :=
  ⟨(h.bel.setCell (by simp; omega) _).setCell (by simp; omega) _, row_other (row_other h.post (by omega) _ _) (by omega) _ _, row_other (row_set h.res 0 s') (by omega) _ _, row_set (row_other h.err (by omega) _ _) 0 y'⟩
theorem Wd3.out {w W : World} {X : Nat} {lab : List UInt8} {o d k acc : Int} {s y : Value} (h : Wd3 w W X lab o d k acc s y) (tmps : Array Value) (h2 : tmps.getD 6 undef = .pointer (some ⟨X + 1 + 1, 0, none⟩)) (h3 : tmps.getD 7 undef = .pointer (some ⟨X + 1 + 1 + 1, 0, none⟩)) :
    (results Tryz.f19 tmps).run Tryz.prog W = .ok (.tuple #[s, y]) W := by
  have e1 : (loadVar 3 ⟨X + 1 + 1, 0, none⟩).run Tryz.prog W = .ok s W := by
    have := cell_of_row W _ 0 _ _ _ h.res
    simp [loadVar, go_sem, this]
  have e2 : (loadVar 44 ⟨X + 1 + 1 + 1, 0, none⟩).run Tryz.prog W = .ok y W := by
    have := cell_of_row W _ 0 _ _ _ h.err
    simp [loadVar, go_sem, this]
  have h2' : tmps[6]?.getD undef = .pointer (some ⟨X + 1 + 1, 0, none⟩) := by simpa using h2
  have h3' : tmps[7]?.getD undef = .pointer (some ⟨X + 1 + 1 + 1, 0, none⟩) := by simpa using h3
  simp [results, Tryz.results19, asAddr, h2', h3', e1, e2]
set_option maxHeartbeats 1000000 in
theorem due_idle (q r : Nat) (w : World) :
    CallsD Tryz.prog 52 #[.pointer (some ⟨q, 0, none⟩), .pointer (some ⟨r, 0, none⟩)] .returning w fun e u' w' => e = .returned (.tuple #[]) ∧ u' = .returning ∧ w' = w := by
  refine callsD_of_wpS Tryz.func52 rfl fun c₀ cs hu => ?_
  apply wpS_seq
  apply wpS_region
  simp [wpOpsS, go_sem, recoverD, hu, Tryz.ntmps52, Exit.thenS]
  refine wpS_of_wp ?_
  go_wp2_with fail
  cases c₀
  simp_all [bodyPostS, results, Tryz.results52]
theorem due_set {w' : World} {Y CB b : Nat} {v z1 z2 z3 z4 : Value} (hY : b ≠ Y) (hC : b ≠ CB) (h : w'.cell? ⟨Y, 0, none⟩ = some z1 ∧ w'.cell? ⟨Y, 1, none⟩ = some z2 ∧ w'.cell? ⟨Y, 2, none⟩ = some z3 ∧ w'.cell? ⟨CB, 2, none⟩ = some z4) :
    (w'.setCell ⟨b, 0, none⟩ v).cell? ⟨Y, 0, none⟩ = some z1 ∧ (w'.setCell ⟨b, 0, none⟩ v).cell? ⟨Y, 1, none⟩ = some z2 ∧ (w'.setCell ⟨b, 0, none⟩ v).cell? ⟨Y, 2, none⟩ = some z3 ∧ (w'.setCell ⟨b, 0, none⟩ v).cell? ⟨CB, 2, none⟩ = some z4 := by
  refine ⟨?_, ?_, ?_, ?_⟩
  · rw [World.cell?_setCell_other _ _ _ _ (by simp <;> omega)]; exact h.1
  · rw [World.cell?_setCell_other _ _ _ _ (by simp)]; exact h.2.1
  · rw [World.cell?_setCell_other _ _ _ _ (by simp)]; exact h.2.2.1
  · rw [World.cell?_setCell_other _ _ _ _ (by simp)]; exact h.2.2.2
end Go.Proofs.YtjpabeoflhkfkaaGreatDoor
namespace Go.Proofs.YtjpabeoflhkfkaaGreatDoor
open Go.RowKit

theorem firstDay_le {c : Cal} {m t d : Int} (h1 : 0 ≤ m) (h2 : m < 1440) : firstDay c m t ≤ d ↔ t ≤ timeOf c d m := by
  unfold firstDay timeOf minOf dayOf
  split <;> omega
theorem firstR_cases (c : Cal) (m t : Int) : (∃ D, nextW c 60 (firstDay c m t) = some D ∧ firstR c m t = (timeOf c D m, 0)) ∨ (nextW c 60 (firstDay c m t) = none ∧ firstR c m t = (0, 20)) := by
  have : firstR c m t = match nextW c 60 (firstDay c m t) with | some d => (timeOf c d m, 0) | none => (0, 20) := rfl
  rw [this]
  cases nextW c 60 (firstDay c m t) with
  | none => exact .inr ⟨rfl, rfl⟩
  | some D => exact .inl ⟨D, rfl, rfl⟩
/-- The first time of a minute is that of a first day. -/
theorem firstR_day {c : Cal} {m t x : Int} (h1 : 0 ≤ m) (h2 : m < 1440) (h : firstR c m t = (x, 0)) : ∃ D, x = timeOf c D m ∧ workB c D = true ∧ t ≤ x ∧ (∀ E, E < D → workB c E = true → timeOf c E m < t) ∧ firstDay c m t ≤ D ∧ D < firstDay c m t + 60 := by
  rcases firstR_cases c m t with ⟨D, hD, h3⟩ | ⟨_, h3⟩
  · rw [h3] at h
    obtain ⟨g1, g2, g3, g4⟩ := nextW_some hD
    refine ⟨D, (Prod.mk.inj h).1.symm, g3, ?_, fun E hE hw => ?_, g1, by omega⟩
    · rw [← (Prod.mk.inj h).1]
      exact (firstDay_le h1 h2).1 g1
    · rcases Int.lt_or_le (timeOf c E m) t with h4 | h4
      · exact h4
      · have := g4 E ((firstDay_le h1 h2).2 h4) hE
        rw [this] at hw
        cases hw
  · rw [h3] at h
    have := (Prod.mk.inj h).2
    omega
theorem time_inj {c : Cal} {m D E : Int} : timeOf c D m < timeOf c E m ↔ D < E := by unfold timeOf; omega
theorem firstR_ok {c : Cal} {m t : Int} (h : (firstR c m t).2 = 0) : firstR c m t = ((firstR c m t).1, 0) := by rw [← h]
/-! Ways -/
/-- Nothing is later in the first network. -/
structure Quick (n m : Net) : Prop where
  lins : n.lins = m.lins
  lens : n.offs.length = m.offs.length
  cal : ∀ o, calAt n o = calAt m o
  ready : ∀ o < m.offs.length, ∀ t u, t ≤ u → readyR (offAt n o) t ≤ readyR (offAt m o) u
theorem Quick.same (n : Net) : Quick n n := ⟨rfl, rfl, fun _ => rfl, fun o _ t u h => by unfold readyR; omega⟩
inductive All2 {α : Type} (R : α → α → Prop) : List α → List α → Prop
  | nil : All2 R [] []
  | cons {a b : α} {l m : List α} (h : R a b) (t : All2 R l m) : All2 R (a :: l) (b :: m)
theorem All2.len {α : Type} {R : α → α → Prop} {l m : List α} (h : All2 R l m) : l.length = m.length := by
  induction h with
  | nil => rfl
  | cons _ _ ih => simp [ih]
theorem All2.get {α : Type} {R : α → α → Prop} {l m : List α} (h : All2 R l m) : ∀ (i : Nat) (a b : α), l[i]? = some a → m[i]? = some b → R a b := by
  induction h with
  | nil => intro i a b h; simp at h
  | cons h t ih =>
    intro i a b ha hb
    cases i with
    | zero => cases ha; cases hb; exact h
    | succ i => exact ih i a b ha hb
theorem dest_lt {n : Net} {nx : List NsC} (hG : Good n) (hF : Formed n nx) {o d : Nat} (ho : o < n.offs.length) (hd : d < n.offs.length) (hl : nxAt nx o d ≠ -1) : (0 ≤ (linAt n (nxAt nx o d).toNat).at_ ∧ (linAt n (nxAt nx o d).toNat).at_ < 1440) ∧ (linAt n (nxAt nx o d).toNat).to.toNat < n.offs.length ∧ ((linAt n (nxAt nx o d).toNat).to.toNat : Int) = (linAt n (nxAt nx o d).toNat).to ∧ 0 ≤ nxAt nx o d ∧ nxAt nx o d < n.lins.length := by
  obtain ⟨h1, h2, h3⟩ := (formed_at hF ho hd).resolve_left hl
  have hlt : (nxAt nx o d).toNat < n.lins.length := by omega
  have := hG.lin _ (List.mem_of_getElem? (linAt_get hlt))
  refine ⟨⟨this.2.2.1, this.2.2.2.1⟩, by omega, by omega, h1, h2⟩
/-- What a way is. -/
def WayOk (n : Net) (nx : List NsC) (d : Nat) : Nat → Int → List St → Prop
  | _, _, [] => False
  | o, t, [s] => s = ⟨o, t, -1, -1⟩ ∧ o = d
  | o, t, s :: s' :: l => s = ⟨o, t, (departR (calAt n o) (linAt n (nxAt nx o d).toNat) (readyR (offAt n o) t)).1, nxAt nx o d⟩ ∧ o ≠ d ∧ nxAt nx o d ≠ -1 ∧ (departR (calAt n o) (linAt n (nxAt nx o d).toNat) (readyR (offAt n o) t)).2 = 0 ∧ WayOk n nx d (linAt n (nxAt nx o d).toNat).to.toNat (s.depart + (linAt n (nxAt nx o d).toNat).travel) (s' :: l)
theorem wayR_ok {n : Net} {nx : List NsC} {d : Nat} : ∀ (f o : Nat) (t : Int), (wayR n nx d f o t).1 = 0 → WayOk n nx d o t (wayR n nx d f o t).2 ∧ (wayR n nx d f o t).2.length ≤ f + 1 := by
  intro f
  induction f with
  | zero =>
    intro o t h
    by_cases hod : o = d
    · subst hod
      rw [wayR_at]
      exact ⟨⟨rfl, rfl⟩, Nat.le_refl _⟩
    · simp only [wayR, hod, if_false] at h
      split at h
      · exact absurd h (by decide)
      · split at h
        · exact absurd h (by decide)
        · rename_i h2
          exact absurd h h2
  | succ f ih =>
    intro o t h
    by_cases hod : o = d
    · subst hod
      rw [wayR_at]
      exact ⟨⟨rfl, rfl⟩, by simp⟩
    by_cases hl : nxAt nx o d = -1
    · rw [wayR_no _ _ _ _ _ _ hod hl] at h
      exact absurd h (by decide)
    simp only [wayR, hod, hl, if_false] at h ⊢
    split at h
    case isFalse hh => exact absurd h hh
    case isTrue hh =>
    split at h
    case isFalse g => exact absurd h g
    case isTrue g =>
    rw [if_pos hh, if_pos g]
    obtain ⟨i1, i2⟩ := ih _ _ g
    generalize hw : (wayR n nx d f (linAt n (nxAt nx o d).toNat).to.toNat ((departR (calAt n o) (linAt n (nxAt nx o d).toNat) (readyR (offAt n o) t)).1 + (linAt n (nxAt nx o d).toNat).travel)).2 = W at i1 i2
    cases W with
    | nil => exact i1.elim
    | cons s' l => exact ⟨⟨rfl, hod, hl, hh, i1⟩, by simp at i2 ⊢; omega⟩

/-! Promises -/
end Go.Proofs.YtjpabeoflhkfkaaGreatDoor
