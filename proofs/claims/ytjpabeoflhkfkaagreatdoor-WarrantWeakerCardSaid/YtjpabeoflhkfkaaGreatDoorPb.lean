/-
  The walks over the calendar: remainders, whether it is well-formed, the search in the holidays, working days. The walks over the calendar's iterator: the working days among some days. The walks over promise.first and its small helpers. The walk over calendar.Count. The walk over calendar.Add, for one working day. The walk over calendar.Add, for any number of working days. The walks over promise's small functions of a network behind a pointer.
-/
import Derived.Test.YtjpabeoflhkfkaaGreatDoorPaa
import Derived.IntWalk
import Derived.Deep.DeepMust
import Derived.Deep.DeepCutAuto
import Derived.Laws.CopyOwn
import Derived.BigRegion
import Derived.Deep.RegionLaw
import Derived.Test.YtjpabeoflhkfkaaGreatDoorPa
import Derived.RangeFuncFrom
import Derived.Laws.EntriesVeiled
namespace Go.Proofs.YtjpabeoflhkfkaaGreatDoor
open Go.RowKit

set_option maxHeartbeats 400000 in
theorem rem_any (a b : Int) (w : World) (ha : I64 a) (hb : 0 < b) (hb2 : b ≤ 100000) :
    Calls Tryz.prog 49 #[iV a, iV b] w fun e w' => e = .returned (iV (a % b)) ∧ w = w' := by
  obtain ⟨ha1, ha2⟩ := ha
  have hb0 : b ≠ 0 := by omega
  have ht1 := Int.tmod_lt_of_pos a hb
  have ht2 : -b < a.tmod b := by
    have := Int.tmod_lt_of_pos (-a) hb
    rw [Int.neg_tmod] at this
    omega
  have hE : Hid (a % b = if a.tmod b < 0 then a.tmod b + b else a.tmod b) := by
    show _ = _
    have h1 := Int.emod_def a b
    rcases (by omega : a < 0 ∨ 0 ≤ a) with h | h
    · by_cases hz : a.tmod b < 0
      · rw [if_pos hz]
        have hd := Int.mul_tdiv_add_tmod a b
        have key : a % b = ((a.tmod b + b) + b * (a.tdiv b - 1)) % b := by
          congr 1
          rw [Int.mul_sub, Int.mul_one]
          omega
        rw [key, Int.add_mul_emod_self_left]
        exact Int.emod_eq_of_lt (by omega) (by omega)
      · rw [if_neg hz]
        have hd := Int.mul_tdiv_add_tmod a b
        have : a = a.tmod b + b * a.tdiv b := by omega
        rw [show a % b = (a.tmod b + b * a.tdiv b) % b by rw [← this], Int.add_mul_emod_self_left]
        exact Int.emod_eq_of_lt (by omega) ht1
    · have hz : ¬ a.tmod b < 0 := by have := Int.tmod_nonneg b h; omega
      rw [if_neg hz]
      exact (Int.tmod_eq_emod_of_nonneg h).symm
  go_enter Tryz.func49, Tryz.ntmps49
  go_wp2
  · go_ret
    exact ⟨ret_int (by rw [hE.out, if_pos (by assumption)]), rfl⟩
  · go_ret
    exact ⟨ret_int (by rw [hE.out, if_neg (by omega)]), rfl⟩
theorem upB_get {l : List Int} (h : ∀ i (hi : i + 1 < l.length), l[i] < l[i + 1]) : upB l = true := by
  induction l with
  | nil => rfl
  | cons a l ih =>
    cases l with
    | nil => rfl
    | cons b l =>
      simp only [upB, Bool.and_eq_true, decide_eq_true_eq]
      exact ⟨h 0 (by simp), ih fun i hi => h (i + 1) (by simpa using hi)⟩
theorem upB_at {l : List Int} (h : upB l = true) (i : Nat) (hi : i + 1 < l.length) : l[i] < l[i + 1] :=
  List.pairwise_iff_getElem.1 (upB_sorted h) i (i + 1) (by omega) hi (by omega)
/-- The calendar's cells, in a box of the call's own. -/
theorem cal_box (w : World) (c : Cal) (t : TypeId) : (w.alloc (.cells (encCal c).toArray t)).cell? ⟨w.heap.size, 0, none⟩ = some (iV c.zone) ∧ (w.alloc (.cells (encCal c).toArray t)).cell? ⟨w.heap.size, 1, none⟩ = some (.slice c.wA c.week.length c.wc) ∧ (w.alloc (.cells (encCal c).toArray t)).cell? ⟨w.heap.size, 2, none⟩ = some (.slice c.hA c.hol.length c.hc) :=
  have h := heap_alloc_new w (.cells (encCal c).toArray t)
  ⟨cell_of_row _ _ 0 _ _ _ h, cell_of_row _ _ 1 _ _ _ h, cell_of_row _ _ 2 _ _ _ h⟩
theorem ba (W : World) (o : Obj) : Below W.heap.size W (W.alloc o) := (Below.refl _ W).alloc (Nat.le_refl _) o
set_option maxHeartbeats 2000000 in
theorem valid_any (c : Cal) (w : World) (hc : CalIn w c) :
    Calls Tryz.prog 48 #[calV c] w fun e w' => e = .returned (.bool (calB c)) ∧ Below w.heap.size w w' := by
  obtain ⟨⟨z1, z2⟩, -, hA, -, hl1, hl2⟩ := hc
  have HB := Lib.hid (ba w (.cells (encCal c).toArray 58))
  have HA := Lib.hid (hA.below HB.out); clear hA
  unfold maxLen at hl1 hl2
  have hbox := cal_box w c 58
  unfold encCal at HA HB hbox
  obtain ⟨k0, k1, k2⟩ := hbox
  have HW : w.heap.size < (w.alloc (.cells #[iV c.zone, .slice c.wA c.week.length c.wc, .slice c.hA c.hol.length c.hc] 58)).heap.size := by simp
  by_cases hall : (-720 ≤ c.zone ∧ c.zone ≤ 840 ∧ c.week.length = 7 ∧ c.hol.length ≤ 40)
  · obtain ⟨g1, g2, g3, g4⟩ := hall
    have i1 : ¬ c.zone < -720 := by omega
    have i2 : ¬ 840 < c.zone := by omega
    have i3 : ((c.week.length : Int) != 7) = false := by simp; omega
    have i3' : ((c.week.length : Int) == 7) = true := by simp; omega
    have i4 : ¬ (40 : Int) < (c.hol.length : Int) := by omega
    have HR : Hid (calB c = upB c.hol) := by
      show _ = _
      unfold calB
      simp [g1, g2, g3, g4]
    clear g3
    go_enter Tryz.func48, Tryz.ntmps48
    go_upto_region 1 with fail
    change Code.wp _ _ _ _ (w.alloc (.cells #[iV c.zone, .slice c.wA c.week.length c.wc, .slice c.hA c.hol.length c.hc] 58))
    generalize (w.alloc (.cells #[iV c.zone, .slice c.wA c.week.length c.wc, .slice c.hA c.hol.length c.hc] 58)) = W0 at *
    go_wp2
    go_loopw [3] (fun i wr => ∃ k q : Nat, 1 ≤ k ∧ k ≤ c.hol.length + 1 ∧ i = iV k ∧ wr = W0.drewN q ∧ Hid (∀ (m : Nat) (h : m + 1 < c.hol.length), m + 1 < k → c.hol[m] < c.hol[m + 1])) (fun i _ => c.hol.length + 1 - (intOf i).toNat)
    case atStart => exact ⟨1, 0, Nat.le_refl _, by omega, rfl, rfl, fun m h1 h2 => by omega⟩
    case round =>
      obtain ⟨k, q, hk1, hk2, rfl, rfl, HS⟩ := hrel
      by_cases hlt : k < c.hol.length
      · obtain ⟨b, off, hA, hb, hcc⟩ := HA.out.get (i := k) (by simpa using hlt)
        have e1 : W0.cell? ⟨b, off + k, none⟩ = some (iV c.hol[k]) := hcc k _ (by simp [hlt])
        have e2 : W0.cell? ⟨b, off + (k - 1), none⟩ = some (iV (c.hol[k - 1]'(by omega))) := hcc (k - 1) _ (by simp [show k - 1 < c.hol.length by omega])
        have HPK : Hid (c.hol[k - 1]'(by omega) < c.hol[k] → ∀ (m : Nat) (h : m + 1 < c.hol.length), m + 1 < k + 1 → c.hol[m] < c.hol[m + 1]) := fun hx m h1 h2 => by
          by_cases hm : m + 1 < k
          · exact HS.out m h1 hm
          · obtain rfl : k = m + 1 := by omega
            exact hx
        have HNK : Hid (c.hol[k] ≤ c.hol[k - 1]'(by omega) → upB c.hol = false) := fun hx => by
          rw [Bool.eq_false_iff]
          intro h
          have := upB_at h (k - 1) (by omega)
          simp only [show k - 1 + 1 = k by omega] at this
          omega
        rw [hA] at k2
        generalize c.hol[k] = x at *
        generalize c.hol[k - 1]'(by omega) = y at *
        clear hcc
        have j1 : (0 : Int) ≤ (k : Int) := by omega
        have j2 : (k : Int) < (c.hol.length : Int) := by omega
        have j3 : (1 : Int) ≤ (k : Int) := by omega
        have j4 : (k : Int) - 1 < (c.hol.length : Int) := by omega
        have j5 : (0 : Int) ≤ (k : Int) - 1 := by omega
        have j6 : IntKind.i64.wrap ((k : Int) - 1) = (k : Int) - 1 := IntWalk.i64_in _ (by omega)
        have j7 : ((k : Int) - 1).toNat = k - 1 := by omega
        go_wp2
        go_quiet (fail)
        clear j6 j7
        go_wp2
        · go_ret
          exact ⟨ret_bool (by rw [HR.out, HNK.out (by assumption)]), below_drewN (below_drewN HB.out q) _⟩
        · go_roundw
          case rel => exact ⟨k + 1, _, by omega, by omega, by go_num, rfl, HPK.out (by omega)⟩
          case measure => simp [intOf]; omega
      · have j2 : ¬ (k : Int) < (c.hol.length : Int) := by omega
        go_wp2
        go_ret
        exact ⟨ret_bool (by rw [HR.out, upB_get (fun m h => HS.out m h (by omega))]), below_drewN HB.out _⟩
  · have HR : Hid (calB c = false) := by
      show _ = _
      unfold calB
      rw [Bool.eq_false_iff]
      intro h
      simp [and_assoc] at h
      exact hall ⟨h.1, h.2.1, h.2.2.1, h.2.2.2.1⟩
    by_cases i1 : c.zone < -720
    · go_enter Tryz.func48, Tryz.ntmps48
      go_wp2
      go_ret
      exact ⟨ret_bool HR.out.symm, HB.out⟩
    by_cases i2 : 840 < c.zone
    · go_enter Tryz.func48, Tryz.ntmps48
      go_wp2
      go_ret
      exact ⟨ret_bool HR.out.symm, HB.out⟩
    by_cases i3 : c.week.length = 7
    · have i3' : ((c.week.length : Int) == 7) = true := by simp; omega
      have i3'' : ((c.week.length : Int) != 7) = false := by simp; omega
      have i4 : (40 : Int) < (c.hol.length : Int) := by omega
      clear i3
      go_enter Tryz.func48, Tryz.ntmps48
      go_wp2
      go_ret
      exact ⟨ret_bool HR.out.symm, HB.out⟩
    · have i3' : ((c.week.length : Int) == 7) = false := by simp; omega
      have i3'' : ((c.week.length : Int) != 7) = true := by simp; omega
      clear i3
      go_enter Tryz.func48, Tryz.ntmps48
      go_wp2
      go_ret
      exact ⟨ret_bool HR.out.symm, HB.out⟩
/-- How many of the first n places do not say yes, where yes goes on. -/
structure Cut (p : Nat → Bool) (n k : Nat) : Prop where
  le : k ≤ n
  no : ∀ i, i < k → p i = false
  yes : ∀ i, k ≤ i → i < n → p i = true
def Srch (p : Nat → Bool) (n : Nat) (w : World) (e : Ending) (w' : World) : Prop := ∃ k : Nat, e = .returned (iV k) ∧ Cut p n k ∧ Below w.heap.size w w'
set_option maxHeartbeats 1000000 in
/-- A search: for each closure that answers by p and makes memory of its own alone. -/
theorem search_any (f : FuncId) (cb : Array Value) (n : Nat) (p : Nat → Bool) (w : World) (hn : n ≤ 1000000) (_hcb : cb.size = 2)
    (hf : ∀ (i : Nat) (W : World), i < n → Below w.heap.size w W → Calls Tryz.prog f (#[iV i] ++ cb) W fun e W' => e = .returned (.bool (p i)) ∧ Below W.heap.size W W')
    (hmono : ∀ a b, a ≤ b → b < n → p a = true → p b = true) (eg : ∀ args w, (callFunc f args).run Tryz.prog w = .ok (.enter f args) w) :
    Calls Tryz.prog 161 #[iV n, .func (.func f) #[] cb] w (Srch p n w) := by
  have HF := Lib.hid hf; clear hf
  have HM := Lib.hid hmono; clear hmono
  go_enter Tryz.func161, Tryz.ntmps161
  go_wp2
  go_loopw [5, 6] (fun i j wr => ∃ a b : Nat, a ≤ b ∧ b ≤ n ∧ i = iV a ∧ j = iV b ∧ Hid (∀ x, x < a → p x = false) ∧ Hid (∀ x, b ≤ x → x < n → p x = true) ∧ Hid (Below w.heap.size w wr)) (fun i j _ => (intOf j).toNat - (intOf i).toNat)
  case atStart => exact ⟨0, n, Nat.zero_le _, Nat.le_refl _, rfl, rfl, fun x h => by omega, fun x h1 h2 => by omega, Below.refl _ _⟩
  case round =>
    obtain ⟨a, b, hab, hbn, rfl, rfl, H1, H2, HB⟩ := hrel
    by_cases hlt : a < b
    · have g1 : (a : Int) < (b : Int) := by omega
      obtain ⟨h, hh⟩ : ∃ h : Nat, h = (a + b) / 2 := ⟨_, rfl⟩
      have hh1 : a ≤ h := by omega
      have hh2 : h < b := by omega
      have hd : ((a : Int) + (b : Int)) / 2 = (h : Int) := by omega
      clear hh
      go_wp2_with fail
      refine (HF.out h wr (by omega) HB.out).mono ?_
      rintro e w1 ⟨rfl, hb⟩
      have HB1 := Lib.hid (bt HB.out hb); clear hb
      cases hp : p h with
      | true =>
        have HP := Lib.hid hp; clear hp
        go_wp2
        go_roundw
        case rel => exact ⟨a, h, hh1, by omega, rfl, rfl, H1, fun x h3 h4 => HM.out h x h3 h4 HP.out, HB1⟩
        case measure => simp [intOf]; omega
      | false =>
        have HP := Lib.hid hp; clear hp
        go_wp2
        go_roundw
        case rel =>
          refine ⟨h + 1, b, by omega, hbn, by go_num, rfl, fun x h3 => ?_, H2, HB1⟩
          by_cases hx : x < a
          · exact H1.out x hx
          · cases hq : p x with
            | false => rfl
            | true => have := HM.out x h (by omega) (by omega) hq; rw [HP.out] at this; cases this
        case measure => simp [intOf]; omega
    · have g1 : ¬ (a : Int) < (b : Int) := by omega
      go_wp2
      go_ret
      exact ⟨a, rfl, ⟨by omega, H1.out, fun i h3 h4 => H2.out i (by omega) h4⟩, HB.out⟩
/-- The captured boxes of a calendar's days: the week's array, the calendar. -/
structure Wk (w : World) (c : Cal) (P Q : Nat) : Prop where
  week : ∀ i (_ : i < 7), w.cell? ⟨P, i, none⟩ = some (oV (c.week.getD i false))
  hol : w.cell? ⟨Q, 2, none⟩ = some (.slice c.hA c.hol.length c.hc)
  rd : Rd w c.hA (c.hol.map iV)
  lens : c.hol.length ≤ 1000000 ∧ ∀ n ∈ c.hol, I64 n
theorem Wk.ltP {w : World} {c : Cal} {P Q : Nat} (h : Wk w c P Q) : P < w.heap.size := World.block_lt_of_cell? w _ (h.week 0 (by omega))
theorem Wk.ltQ {w : World} {c : Cal} {P Q : Nat} (h : Wk w c P Q) : Q < w.heap.size := World.block_lt_of_cell? w _ h.hol
theorem Wk.below {w w' : World} {c : Cal} {P Q : Nat} (h : Wk w c P Q) (hb : Below w.heap.size w w') : Wk w' c P Q :=
  ⟨fun i hi => (World.cell?_of_block (a := ⟨P, i, none⟩) (hb.block _ h.ltP)).trans (h.week i hi), (World.cell?_of_block (a := ⟨Q, 2, none⟩) (hb.block _ h.ltQ)).trans h.hol, h.rd.below hb, h.lens⟩
set_option maxHeartbeats 1000000 in
theorem holi_any (c : Cal) (P Q D : Nat) (d : Int) (i : Nat) (w : World) (hw : Wk w c P Q) (hd : w.cell? ⟨D, 0, none⟩ = some (iV d)) (hi : i < c.hol.length) :
    Calls Tryz.prog 162 #[iV i, .pointer (some ⟨Q, 0, none⟩), .pointer (some ⟨D, 0, none⟩)] w fun e w' => e = .returned (.bool (decide (d ≤ c.hol.getD i 0))) ∧ Below w.heap.size w w' := by
  obtain ⟨b, off, hA, hb, hcc⟩ := hw.rd.get (i := i) (by simpa using hi)
  have e1 : w.cell? ⟨b, off + i, none⟩ = some (iV c.hol[i]) := hcc i _ (by simp [hi])
  have k2 := hw.hol
  have HG : Hid (c.hol.getD i 0 = c.hol[i]) := by show _ = _; simp [List.getD, hi]
  rw [hA] at k2
  have j1 : (0 : Int) ≤ (i : Int) := by omega
  have j2 : (i : Int) < (c.hol.length : Int) := by omega
  generalize c.hol[i] = x at *
  clear hcc hw hA
  go_enter Tryz.func162, Tryz.ntmps162
  go_wp2
  go_quiet (fail)
  go_wp2
  go_ret
  exact ⟨ret_bool (by rw [HG.out]), below_drewN (Below.refl _ _) _⟩
theorem mem_cut {hol : List Int} {d : Int} {k : Nat} (hs : upB hol = true) (hc : Cut (fun i => decide (d ≤ hol.getD i 0)) hol.length k) : (k = hol.length → d ∉ hol) ∧ ∀ (h : k < hol.length), (d ∈ hol ↔ hol[k] = d) := by
  have key : ∀ j (hj : j < hol.length), hol[j] = d → k ≤ j := fun j hj e => by
    rcases Nat.lt_or_ge j k with h | h
    · have := hc.no j h
      simp [List.getD, hj, e] at this
    · exact h
  constructor
  · intro hk hm
    obtain ⟨j, hj, e⟩ := List.mem_iff_getElem.1 hm
    have := key j hj e
    omega
  · intro h
    constructor
    · intro hm
      obtain ⟨j, hj, e⟩ := List.mem_iff_getElem.1 hm
      have h1 := key j hj e
      have h2 := hc.yes k (Nat.le_refl _) h
      simp [List.getD, h] at h2
      rcases Nat.eq_or_lt_of_le h1 with h3 | h3
      · subst h3; exact e
      · have := List.pairwise_iff_getElem.1 (upB_sorted hs) k j h hj h3
        omega
    · intro e
      exact e ▸ List.getElem_mem h
theorem mono_cut {hol : List Int} (d : Int) (hs : upB hol = true) (a b : Nat) (hab : a ≤ b) (hb : b < hol.length) (h : decide (d ≤ hol.getD a 0) = true) : decide (d ≤ hol.getD b 0) = true := by
  have ha : a < hol.length := by omega
  simp [List.getD, ha] at h
  simp [List.getD, hb]
  rcases Nat.eq_or_lt_of_le hab with h3 | h3
  · subst h3; exact h
  · have := List.pairwise_iff_getElem.1 (upB_sorted hs) a b ha hb h3
    omega
set_option maxHeartbeats 2000000 in
theorem works_any (c : Cal) (P Q : Nat) (d : Int) (w : World) (hw : Wk w c P Q) (hup : upB c.hol = true) (hd : I64 d) :
    Calls Tryz.prog 160 #[iV d, .pointer (some ⟨P, 0, none⟩), .pointer (some ⟨Q, 0, none⟩)] w fun e w' => e = .returned (.bool (workB c d)) ∧ Below w.heap.size w w' := by
  have HW := Lib.hid hw
  have HD : Hid (I64 d) := hd
  clear hd
  have HB := Lib.hid (ba w (.cells #[iV d] 3))
  have HW1 := Lib.hid (hw.below HB.out)
  have hdc : (w.alloc (.cells #[iV d] 3)).cell? ⟨w.heap.size, 0, none⟩ = some (iV d) := cell_of_row _ _ 0 _ _ _ (heap_alloc_new _ _)
  obtain ⟨m, hm⟩ : ∃ m : Nat, (m : Int) = d % 7 := ⟨(d % 7).toNat, by omega⟩
  have hm7 : m < 7 := by omega
  have hmn : (d % 7).toNat = m := by omega
  have j1 : (m : Int) < 7 := by omega
  have k0 := HW1.out.week m hm7
  have k2 := HW1.out.hol
  have HWB : Hid (workB c d = (c.week.getD m false && !decide (d ∈ c.hol))) := by show _ = _; unfold workB; rw [hmn]
  clear hw hmn
  go_enter Tryz.func160, Tryz.ntmps160
  go_upto_region 1 with fail
  change Code.wp _ _ _ _ (w.alloc (.cells #[iV d] 3))
  generalize (w.alloc (.cells #[iV d] 3)) = W0 at *
  go_wp2_with fail
  refine (rem_any d 7 _ HD.out (by omega) (by omega)).mono ?_
  rintro e w1 ⟨rfl, rfl⟩
  rw [← hm]
  clear hm
  cases hwk : c.week.getD m false with
  | false =>
    rw [hwk] at k0
    have HR : Hid (workB c d = false) := by show _ = _; rw [HWB.out, hwk]; rfl
    clear hwk
    go_wp2_with fail
    go_ret
    exact ⟨ret_bool HR.out.symm, HB.out⟩
  | true =>
    rw [hwk] at k0
    have HR : Hid (workB c d = !decide (d ∈ c.hol)) := by show _ = _; rw [HWB.out, hwk]; rfl
    clear hwk
    have HS : Hid (∀ (i : Nat) (W : World), i < c.hol.length → Below W0.heap.size W0 W → Calls Tryz.prog 162 (#[iV i] ++ #[.pointer (some ⟨Q, 0, none⟩), .pointer (some ⟨w.heap.size, 0, none⟩)]) W fun e W' => e = .returned (.bool (decide (d ≤ c.hol.getD i 0))) ∧ Below W.heap.size W W') := fun i W hi hb =>
      holi_any c P Q w.heap.size d i W (HW1.out.below hb) ((World.cell?_of_block (a := ⟨w.heap.size, 0, none⟩) (hb.block _ (World.block_lt_of_cell? W0 _ hdc))).trans hdc) hi
    have HLE : Hid (c.hol.length ≤ 1000000) := HW1.out.lens.1
    go_wp2_with fail
    refine (search_any 162 _ c.hol.length (fun i => decide (d ≤ c.hol.getD i 0)) W0 HLE.out rfl HS.out (mono_cut d hup) (fun _ _ => by simp [go_sem])).mono ?_
    rintro e w2 ⟨k, rfl, hcut, hb⟩
    obtain ⟨hmem1, hmem2⟩ := mem_cut hup hcut
    have hkle := hcut.le
    have HW2 := Lib.hid (HW1.out.below hb)
    have hdc2 : w2.cell? ⟨w.heap.size, 0, none⟩ = some (iV d) := (World.cell?_of_block (a := ⟨w.heap.size, 0, none⟩) (hb.block _ (World.block_lt_of_cell? W0 _ hdc))).trans hdc
    have HB2 := Lib.hid (HB.out.trans (hb.mono HB.out.size))
    have k2' := HW2.out.hol
    clear hb hcut k0 k2 hdc HS HW1
    by_cases hk : k < c.hol.length
    · obtain ⟨b, off, hA, hb, hcc⟩ := HW2.out.rd.get (i := k) (by simpa using hk)
      have e1 : w2.cell? ⟨b, off + k, none⟩ = some (iV c.hol[k]) := hcc k _ (by simp [hk])
      have HM : Hid (d ∈ c.hol ↔ c.hol[k] = d) := hmem2 hk
      rw [hA] at k2'
      generalize c.hol[k] = x at *
      clear hcc hmem1 hmem2 hA
      have g1 : ((k : Int) == (c.hol.length : Int)) = false := by simp; omega
      have g2 : ¬ (k : Int) = (c.hol.length : Int) := by omega
      have g3 : ¬ k = c.hol.length := by omega
      have g4 : (0 : Int) ≤ (k : Int) := by omega
      have g5 : (k : Int) < (c.hol.length : Int) := by omega
      go_wp2
      go_quiet (fail)
      go_wp2
      go_ret
      refine ⟨ret_bool ?_, below_drewN HB2.out _⟩
      rw [HR.out]
      by_cases h : x = d
      · rw [decide_eq_true (HM.out.2 h)]; simp [h]
      · rw [decide_eq_false (fun hh => h (HM.out.1 hh))]; simp [h]
    · obtain rfl : k = c.hol.length := by omega
      have HM := Lib.hid (hmem1 rfl)
      clear hmem1 hmem2
      go_wp2
      go_quiet (fail)
      go_wp2
      go_ret
      exact ⟨ret_bool (by rw [HR.out, decide_eq_false HM.out]; rfl), below_drewN HB2.out _⟩
theorem b_drew {B : Nat} {a w : World} (h : Below B a w) : Below B a w.drew := ⟨h.os, h.tape, h.output, h.size, h.block⟩
/-- The maker of the days' function: the week's array and the calendar lie in boxes of the call's own. -/
def WkR (c : Cal) (w : World) (e : Ending) (w' : World) : Prop := ∃ P Q, e = .returned (.func (.func 160) #[] #[.pointer (some ⟨P, 0, none⟩), .pointer (some ⟨Q, 0, none⟩)]) ∧ Wk w' c P Q ∧ w.heap.size ≤ P ∧ w.heap.size ≤ Q ∧ Below w.heap.size w w'
set_option maxHeartbeats 2000000 in
theorem worker_any (c : Cal) (w : World) (hc : CalIn w c) (h7 : c.week.length = 7) (hh : c.hol.length ≤ 1000000) :
    Calls Tryz.prog 127 #[calV c] w (WkR c w) := by
  have HCI := Lib.hid hc
  obtain ⟨x0, x1, x2, x3, x4, x5, x6, hwk⟩ : ∃ x0 x1 x2 x3 x4 x5 x6, c.week = [x0, x1, x2, x3, x4, x5, x6] := by
    match hl : c.week, h7 with
    | [a, b, d, e, f, g, i], _ => exact ⟨a, b, d, e, f, g, i, rfl⟩
  obtain ⟨b, off, hA, hb, hcc⟩ := hc.2.1.get (i := 0) (by rw [List.length_map]; omega)
  have HWL := Lib.hid h7
  have HWK := Lib.hid hwk
  have HCC := Lib.hid hcc
  have HZ : Hid (((w.alloc (.cells #[iV c.zone, .slice c.wA c.week.length c.wc, .slice c.hA c.hol.length c.hc] 58)).alloc (.cells #[oV false, oV false, oV false, oV false, oV false, oV false, oV false] 182)).heap[w.heap.size + 1]? = some (.cells (([oV false, oV false, oV false, oV false, oV false, oV false, oV false] : List Value).toArray) 182 (0, 0))) := by
    have := heap_alloc_new (w.alloc (.cells #[iV c.zone, .slice c.wA c.week.length c.wc, .slice c.hA c.hol.length c.hc] 58)) (.cells #[oV false, oV false, oV false, oV false, oV false, oV false, oV false] 182)
    rwa [World.size_alloc] at this
  have HQ : Hid (((w.alloc (.cells #[iV c.zone, .slice c.wA c.week.length c.wc, .slice c.hA c.hol.length c.hc] 58)).alloc (.cells #[oV false, oV false, oV false, oV false, oV false, oV false, oV false] 182)).heap[w.heap.size]? = some (.cells #[iV c.zone, .slice c.wA c.week.length c.wc, .slice c.hA c.hol.length c.hc] 58)) := (Below.heap_alloc _ _ _ (by simp)).trans (heap_alloc_new _ _)
  have HB0 : Hid (Below w.heap.size w ((w.alloc (.cells #[iV c.zone, .slice c.wA c.week.length c.wc, .slice c.hA c.hol.length c.hc] 58)).alloc (.cells #[oV false, oV false, oV false, oV false, oV false, oV false, oV false] 182))) := ((Below.refl _ w).alloc (Nat.le_refl _) _).alloc (by simp) _
  have HLT := Lib.hid hb
  have HA := Lib.hid hA
  clear hc hcc hwk hb hA h7
  go_enter Tryz.func127, Tryz.ntmps127
  go_upto_region 2 with fail
  change Code.wp _ _ _ _ ((w.alloc (.cells #[iV c.zone, .slice c.wA c.week.length c.wc, .slice c.hA c.hol.length c.hc] 58)).alloc (.cells #[oV false, oV false, oV false, oV false, oV false, oV false, oV false] 182))
  generalize ((w.alloc (.cells #[iV c.zone, .slice c.wA c.week.length c.wc, .slice c.hA c.hol.length c.hc] 58)).alloc (.cells #[oV false, oV false, oV false, oV false, oV false, oV false, oV false] 182)) = W1 at *
  have k1 : W1.cell? ⟨w.heap.size, 1, none⟩ = some (.slice (some ⟨b, off, none⟩) 7 c.wc) := by
    have h := cell_of_row _ _ 1 _ _ _ HQ.out
    rw [← HA.out, ← HWL.out]
    exact h
  have HSRC : Hid (∀ j v, (c.week.map oV)[j]? = some v → W1.drew.cell? ((⟨b, off, none⟩ : Addr).add j) = some v) := fun j v hj => by
    rw [add_at]
    exact (HB0.out.cell (p := ⟨b, off + j, none⟩) HLT.out).trans (HCC.out j v hj)
  go_region_law ((go_must (refine step_copy_splice (by rfl) _ _ _ _ (by rfl) 4 Tryz.underlying56 (by kernel_rfl) _ _ _ _ _ _ (by rfl) (by rfl) (w.heap.size + 1) 0 [oV false, oV false, oV false, oV false, oV false, oV false, oV false] 182 HZ.out (c.week.map oV) (by rw [List.length_map, HWL.out]; rfl) (fun _ => ⟨rfl, _, rfl, HSRC.out⟩) (by rw [List.length_map, HWL.out]; simp) (fun v hv => by obtain ⟨x, _, rfl⟩ := List.mem_map.1 hv; rfl) (w.heap.size + 1) W1 (b_drew (Below.refl _ _)) (Nat.le_refl _) ?_); intro w4 hg4 hb4))
  have HG4 : Hid (w4.heap[w.heap.size + 1]? = some (.cells ((c.week.map oV).toArray) 182 (0, 0))) := by
    show _ = _
    rw [hg4.out]
    have hl : (c.week.map oV).length = 7 := by rw [List.length_map, HWL.out]
    congr 2
    unfold splice
    rw [hl]
    simp
  have HB4 := Lib.hid hb4
  have HQ4 := Lib.hid ((hb4.block w.heap.size (by omega)).trans HQ.out)
  clear hg4 hb4 k1
  go_wp2
  go_ret
  have hb0 : Below w.heap.size w w4 := HB0.out.trans (HB4.out.mono (by omega))
  refine ⟨w.heap.size + 1, w.heap.size, rfl, ⟨fun i hi => ?_, cell_of_row _ _ 2 _ _ _ HQ4.out, HCI.out.2.2.1.below hb0, hh, HCI.out.2.2.2.1⟩, by omega, Nat.le_refl _, hb0⟩
  rw [cell_of_row _ _ i _ _ _ HG4.out]
  have hi' : i < c.week.length := by rw [HWL.out]; exact hi
  simp [List.getD, hi']
set_option maxHeartbeats 400000 in
theorem range_any (d : Int) (w : World) : Calls Tryz.prog 93 #[iV d] w fun e w' => e = .returned (.bool (dayR d)) ∧ w = w' := by
  by_cases h : -1000000 ≤ d
  · have HR : Hid (dayR d = decide (d ≤ 1000000)) := by show _ = _; unfold dayR; simp [h]
    go_enter Tryz.func93, Tryz.ntmps93
    go_wp2
    go_ret
    exact ⟨ret_bool HR.out.symm, rfl⟩
  · have HR : Hid (dayR d = false) := by show _ = _; unfold dayR; simp [h]
    go_enter Tryz.func93, Tryz.ntmps93
    go_wp2
    go_ret
    exact ⟨ret_bool HR.out.symm, rfl⟩
/-- The box of a calendar stands behind a call. -/
theorem box_below {w w1 W : World} {X : Nat} {o : Obj} (h : W.heap[X]? = some o) (hb : Below W.heap.size W w1) : w1.heap[X]? = some o := by
  have _ := w
  exact (hb.block _ (block_lt h)).trans h
set_option maxHeartbeats 2000000 in
theorem local_any (c : Cal) (x : Int) (w : World) (hc : CalIn w c) (hv : calB c = true) (h1 : -2000000000 ≤ x) (h2 : x ≤ 2000000000) :
    Calls Tryz.prog 16 #[calV c, iV x] w fun e w' => e = .returned (.tuple #[iV (dayOf c x), iV (minOf c x)]) ∧ Below w.heap.size w w' := by
  have HC := Lib.hid hc
  have HX : Hid ((w.alloc (.cells #[iV c.zone, .slice c.wA c.week.length c.wc, .slice c.hA c.hol.length c.hc] 58)).heap[w.heap.size]? = some (.cells #[iV c.zone, .slice c.wA c.week.length c.wc, .slice c.hA c.hol.length c.hc] 58)) := heap_alloc_new _ _
  have HB0 := Lib.hid (ba w (.cells #[iV c.zone, .slice c.wA c.week.length c.wc, .slice c.hA c.hol.length c.hc] 58))
  obtain ⟨z1, z2, -⟩ := calB_zone hv
  have HV := Lib.hid hv; clear hv hc
  have i1 : ¬ x < -2000000000 := by omega
  have i2 : ¬ 2000000000 < x := by omega
  have HM : Hid ((x + c.zone - (x + c.zone) % 1440).tdiv 1440 = dayOf c x) := by
    show _ = _
    unfold dayOf
    have e : x + c.zone - (x + c.zone) % 1440 = 1440 * ((x + c.zone) / 1440) := by omega
    rw [e, Int.mul_tdiv_cancel_left _ (by omega)]
  have m1 : 0 ≤ (x + c.zone) % 1440 := by omega
  have m2 : (x + c.zone) % 1440 < 1440 := by omega
  go_enter Tryz.func16, Tryz.ntmps16
  go_wp2_with fail
  refine (valid_any c _ (HC.out.below HB0.out)).mono ?_
  rintro e w1 ⟨rfl, hb⟩
  rw [HV.out]
  have HX1 := Lib.hid (box_below (w := w) HX.out hb)
  have HB1 := Lib.hid (HB0.out.trans (hb.mono HB0.out.size))
  clear hb HX HB0
  have k0 : w1.cell? ⟨w.heap.size, 0, none⟩ = some (iV c.zone) := cell_of_row _ _ 0 _ _ _ HX1.out
  have k1 : w1.cell? ⟨w.heap.size, 1, none⟩ = some (.slice c.wA c.week.length c.wc) := cell_of_row _ _ 1 _ _ _ HX1.out
  have k2 : w1.cell? ⟨w.heap.size, 2, none⟩ = some (.slice c.hA c.hol.length c.hc) := cell_of_row _ _ 2 _ _ _ HX1.out
  go_wp2_with fail
  refine (rem_any (x + c.zone) 1440 _ ⟨by omega, by omega⟩ (by omega) (by omega)).mono ?_
  rintro e w2 ⟨rfl, rfl⟩
  go_wp2_with fail
  go_ret2
  refine ⟨?_, HB1.out⟩
  show Ending.returned (.tuple #[iV _, iV _]) = _
  rw [HM.out]
  rfl
set_option maxHeartbeats 2000000 in
theorem time_any (c : Cal) (d m : Int) (w : World) (hc : CalIn w c) (hv : calB c = true) (hd : dayR d = true) (h1 : 0 ≤ m) (h2 : m < 1440) :
    Calls Tryz.prog 55 #[calV c, iV d, iV m] w fun e w' => e = .returned (iV (timeOf c d m)) ∧ Below w.heap.size w w' := by
  have HC := Lib.hid hc
  have HX : Hid ((w.alloc (.cells #[iV c.zone, .slice c.wA c.week.length c.wc, .slice c.hA c.hol.length c.hc] 58)).heap[w.heap.size]? = some (.cells #[iV c.zone, .slice c.wA c.week.length c.wc, .slice c.hA c.hol.length c.hc] 58)) := heap_alloc_new _ _
  have HB0 := Lib.hid (ba w (.cells #[iV c.zone, .slice c.wA c.week.length c.wc, .slice c.hA c.hol.length c.hc] 58))
  obtain ⟨z1, z2, -⟩ := calB_zone hv
  have HV := Lib.hid hv; clear hv hc
  have hd' := hd
  unfold dayR at hd'
  simp only [Bool.and_eq_true, decide_eq_true_eq] at hd'
  obtain ⟨d1, d2⟩ := hd'
  have HDR := Lib.hid hd; clear hd
  have i1 : ¬ m < 0 := by omega
  have i2 : ¬ 1440 ≤ m := by omega
  go_enter Tryz.func55, Tryz.ntmps55
  go_wp2_with fail
  refine (valid_any c _ (HC.out.below HB0.out)).mono ?_
  rintro e w1 ⟨rfl, hb⟩
  rw [HV.out]
  have HX1 := Lib.hid (box_below (w := w) HX.out hb)
  have HB1 := Lib.hid (HB0.out.trans (hb.mono HB0.out.size))
  clear hb HX HB0
  have k0 : w1.cell? ⟨w.heap.size, 0, none⟩ = some (iV c.zone) := cell_of_row _ _ 0 _ _ _ HX1.out
  have k1 : w1.cell? ⟨w.heap.size, 1, none⟩ = some (.slice c.wA c.week.length c.wc) := cell_of_row _ _ 1 _ _ _ HX1.out
  have k2 : w1.cell? ⟨w.heap.size, 2, none⟩ = some (.slice c.hA c.hol.length c.hc) := cell_of_row _ _ 2 _ _ _ HX1.out
  go_wp2_with fail
  refine (range_any d _).mono ?_
  rintro e w2 ⟨rfl, rfl⟩
  rw [HDR.out]
  go_wp2_with fail
  go_ret
  exact ⟨rfl, HB1.out⟩
end Go.Proofs.YtjpabeoflhkfkaaGreatDoor
namespace Go.Proofs.YtjpabeoflhkfkaaGreatDoor
open Go.RowKit
attribute [local go_sem] Oper.semAt_some

def wdays (c : Cal) : Nat → Int → List Int
  | 0, _ => []
  | n + 1, d => (if workB c d then [d] else []) ++ wdays c n (d + 1)
theorem wdays_snoc (c : Cal) : ∀ (k : Nat) (d : Int), wdays c (k + 1) d = wdays c k d ++ if workB c (d + k) then [d + k] else []
  | 0, d => by simp [wdays]
  | k + 1, d => by
    have ih := wdays_snoc c k (d + 1)
    rw [wdays, ih, wdays, List.append_assoc]
    rw [show d + 1 + (k : Int) = d + ((k + 1 : Nat) : Int) by omega]
theorem wdays_len (c : Cal) : ∀ (k : Nat) (d : Int), (wdays c k d).length ≤ k
  | 0, _ => Nat.le_refl _
  | k + 1, d => by
    have := wdays_len c k (d + 1)
    rw [wdays, List.length_append]
    split <;> simp <;> omega
theorem wdays_add (c : Cal) : ∀ (k m : Nat) (d : Int), wdays c (k + m) d = wdays c k d ++ wdays c m (d + k)
  | 0, m, d => by simp [wdays]
  | k + 1, m, d => by
    have ih := wdays_add c k m (d + 1)
    rw [show k + 1 + m = (k + m) + 1 by omega, wdays, ih, wdays, List.append_assoc]
    rw [show d + 1 + (k : Int) = d + ((k + 1 : Nat) : Int) by omega]
/-- What the iterator reads. -/
structure Wd (w : World) (c : Cal) (P Q B1 B2 B3 : Nat) (first m : Int) : Prop where
  wk : Wk w c P Q
  b1 : w.cell? ⟨B1, 0, none⟩ = some (iV first)
  b2 : w.cell? ⟨B2, 0, none⟩ = some (iV m)
  b3 : w.cell? ⟨B3, 0, none⟩ = some (.func (.func 160) #[] #[.pointer (some ⟨P, 0, none⟩), .pointer (some ⟨Q, 0, none⟩)])
def wdB (c : Cal) (P Q B1 B2 B3 : Nat) : List Nat := P :: Q :: B1 :: B2 :: B3 :: if c.hol = [] then [] else (c.hA.map (·.block)).toList
def KeepN (B : List Nat) (W W' : World) : Prop := Keep B W W' ∧ W.heap.size ≤ W'.heap.size
theorem Wd.keep {w w' : World} {c : Cal} {P Q B1 B2 B3 : Nat} {first m : Int} (h : Wd w c P Q B1 B2 B3 first m) (hk : KeepN (wdB c P Q B1 B2 B3) w w') : Wd w' c P Q B1 B2 B3 first m := by
  have hp : ∀ {b o v}, b ∈ wdB c P Q B1 B2 B3 → w.cell? ⟨b, o, none⟩ = some v → w'.cell? ⟨b, o, none⟩ = some v := fun {b o v} hb hv => (World.cell?_of_block (a := ⟨b, o, none⟩) (hk.1 b hb)).trans hv
  have hr : Rd w' c.hA (c.hol.map iV) := by
    rcases h.wk.rd with h0 | ⟨b, off, hA, hb, hc⟩
    · exact .inl h0
    · by_cases h0 : c.hol = []
      · exact .inl (by rw [h0]; rfl)
      · exact h.wk.rd.same hk.2 (fun a ha _ => hk.1 a.block (by simp [wdB, ha, h0]))
  exact ⟨⟨fun i hi => hp (by simp [wdB]) (h.wk.week i hi), hp (by simp [wdB]) h.wk.hol, hr, h.wk.lens⟩, hp (by simp [wdB]) h.b1, hp (by simp [wdB]) h.b2, hp (by simp [wdB]) h.b3⟩
theorem wdB_lt {w : World} {c : Cal} {P Q B1 B2 B3 : Nat} {first m : Int} (h : Wd w c P Q B1 B2 B3 first m) : ∀ b ∈ wdB c P Q B1 B2 B3, b < w.heap.size := by
  intro b hb
  simp only [wdB, List.mem_cons] at hb
  rcases hb with rfl | rfl | rfl | rfl | rfl | hb
  · exact h.wk.ltP
  · exact h.wk.ltQ
  · exact World.block_lt_of_cell? w _ h.b1
  · exact World.block_lt_of_cell? w _ h.b2
  · exact World.block_lt_of_cell? w _ h.b3
  · by_cases h0 : c.hol = []
    · rw [if_pos h0] at hb; cases hb
    · rw [if_neg h0] at hb
      rcases h.wk.rd with h1 | ⟨b', off, hA, hb', hc⟩
      · exact absurd (List.map_eq_nil_iff.1 h1) h0
      · rw [hA] at hb
        simp at hb
        subst hb
        exact hb'
theorem keepN_t {B : List Nat} {X Y Z : World} (h : KeepN B X Y) (k : KeepN B Y Z) : KeepN B X Z := ⟨h.1.trans k.1, Nat.le_trans h.2 k.2⟩
theorem keepN_b {B : List Nat} {w : World} (hB : ∀ b ∈ B, b < w.heap.size) (W : World) (l : Nat) (o o' : Obj) (hl : w.heap.size ≤ l) (_ : W.heap[l]? = some o) (_ : o.isCells = false) (_ : o.isWalk = false) : KeepN B W (W.putObj l o') :=
  ⟨fun b hb => World.putObj_heap_other (by have := hB b hb; omega), by rw [World.putObj_size]; exact Nat.le_refl _⟩
theorem wdays_next (c : Cal) : ∀ (n : Nat) (d : Int), (∀ x t, wdays c n d = x :: t → nextW c n d = some x) ∧ (wdays c n d = [] → nextW c n d = none)
  | 0, d => ⟨fun x t h => (by cases h), fun _ => rfl⟩
  | n + 1, d => by
    have ih := wdays_next c n (d + 1)
    simp only [wdays, nextW]
    by_cases hw : workB c d = true
    · rw [if_pos hw, if_pos hw]
      exact ⟨fun x t h => by simp at h; rw [h.1], fun h => by simp at h⟩
    · rw [if_neg hw, if_neg hw]
      simpa using ih
theorem Wd.below {w w' : World} {c : Cal} {P Q B1 B2 B3 : Nat} {first m : Int} (h : Wd w c P Q B1 B2 B3 first m) (hb : Below w.heap.size w w') : Wd w' c P Q B1 B2 B3 first m :=
  ⟨h.wk.below hb, (hb.cell (p := ⟨B1, 0, none⟩) (World.block_lt_of_cell? w _ h.b1)).trans h.b1, (hb.cell (p := ⟨B2, 0, none⟩) (World.block_lt_of_cell? w _ h.b2)).trans h.b2, (hb.cell (p := ⟨B3, 0, none⟩) (World.block_lt_of_cell? w _ h.b3)).trans h.b3⟩
abbrev DayS (c : Cal) := { x : Int // workB c x = true ∧ I64 x }
def valsD {c : Cal} (xs : List (DayS c)) : List Int := xs.map (·.1)
theorem valsD_snoc {c : Cal} (xs : List (DayS c)) (x : DayS c) : valsD (xs ++ [x]) = valsD xs ++ [x.1] := by simp [valsD]
def DaysAll (c : Cal) (first : Int) (n : Nat) (xs : List (DayS c)) : Prop := valsD xs = wdays c n first
def DaysPart (c : Cal) (first : Int) (n : Nat) (pre : List (DayS c)) : Prop := ∃ x pre' t, pre = pre' ++ [x] ∧ wdays c n first = valsD pre ++ t
set_option maxHeartbeats 4000000 in
set_option maxRecDepth 100000 in
theorem days_stops (c : Cal) (P Q B1 B2 B3 : Nat) (first m : Int) (w : World) (hw : Wd w c P Q B1 B2 B3 first m) (hup : upB c.hol = true) (hf1 : -3000000 ≤ first) (hf2 : first ≤ 3000000) (hm1 : -3000000 ≤ m) (hm2 : m ≤ 3000000) :
    SeqStopsK Fence.wide 8 Tryz.prog 128 #[.pointer (some ⟨B1, 0, none⟩), .pointer (some ⟨B2, 0, none⟩), .pointer (some ⟨B3, 0, none⟩)] (fun x : DayS c => #[iV x.1]) (KeepN (wdB c P Q B1 B2 B3)) (DaysAll c first m.toNat) (DaysPart c first m.toNat) m.toNat w := by
  intro l J Jx W hW hJ hJx hY hJ0
  have HW0 := Lib.hid (hw.below hW)
  have HJ := Lib.hid hJ; clear hJ
  have HJx := Lib.hid hJx; clear hJx
  have HY := Lib.hid hY; clear hY
  clear hw hW
  have e1 := HW0.out.b1
  refine callsIn_of_wp Tryz.func128 rfl trivial ?_ rfl
  simp only [Tryz.ntmps128, List.size_toArray, List.length_cons, List.length_nil, Nat.reduceAdd, Nat.reduceSub, Array.replicate_succ, Array.replicate_zero, List.push_toArray, List.append_toArray, List.nil_append, List.cons_append]
  gi_wp2
  clear e1
  gi_loopw [5] (fun i wr => ∃ (k : Nat) (pre : List (DayS c)), k ≤ m.toNat ∧ i = iV (first + k) ∧ J pre wr ∧ Wd wr c P Q B1 B2 B3 first m ∧ valsD pre = wdays c k first) (fun i _ => (first + m - intOf i).toNat)
  case atStart => exact ⟨0, [], Nat.zero_le _, by go_num, hJ0, HW0.out, rfl⟩
  case round =>
    obtain ⟨k, pre, hk, rfl, hj, hS, hv⟩ := hrel
    have HS := Lib.hid hS; clear hS
    have HJK := Lib.hid hj; clear hj
    have HV := Lib.hid hv; clear hv
    have c1 := HS.out.b1
    have c2 := HS.out.b2
    have c3 := HS.out.b3
    by_cases hlt : (k : Int) < m
    · have g1 : first + (k : Int) < first + m := by omega
      have hd : I64 (first + k) := ⟨by omega, by omega⟩
      have HD := Lib.hid hd; clear hd
      have hsn := wdays_snoc c k first
      cases hwk : workB c (first + k) with
      | false =>
        rw [hwk] at hsn
        have HSN := Lib.hid hsn; clear hsn
        have HWK := Lib.hid hwk; clear hwk
        gi_wp2_with (refine ⟨trivial, ?_⟩; gi_at_call 160; refine (callsIn_wide.2 (works_any c P Q (first + k) _ HS.out.wk hup HD.out)).mono ?_; rintro e w1 ⟨rfl, hb⟩; rw [HWK.out]; clear c1 c2 c3)
        refine ⟨fun _ h => (by cases h), ?_⟩
        gi_wp2
        exact ⟨⟨k + 1, pre, by omega, by go_num, HJ.out pre wr w1 none HJK.out (grown_of_below hb none) (fun r e => by cases e), HS.out.below hb, by rw [HV.out, HSN.out]; simp⟩, by simp [intOf]; omega⟩
      | true =>
        rw [hwk] at hsn
        have HSN := Lib.hid hsn; clear hsn
        have HWK := Lib.hid hwk; clear hwk
        have hlen : pre.length < m.toNat := by
          have h1 := congrArg List.length HV.out
          have h2 := wdays_len c k first
          simp [valsD] at h1
          omega
        have HLEN := Lib.hid hlen; clear hlen
        have hpart : Hid (DaysPart c first m.toNat (pre ++ [⟨first + k, HWK.out, HD.out⟩])) := by
          refine ⟨_, pre, wdays c (m.toNat - (k + 1)) (first + ((k + 1 : Nat) : Int)), rfl, ?_⟩
          rw [valsD_snoc, HV.out]
          have h1 := wdays_add c (k + 1) (m.toNat - (k + 1)) first
          rw [show k + 1 + (m.toNat - (k + 1)) = m.toNat by omega, HSN.out] at h1
          simpa using h1
        gi_wp2_with (refine ⟨trivial, ?_⟩; gi_at_call 160; refine (callsIn_wide.2 (works_any c P Q (first + k) _ HS.out.wk hup HD.out)).mono ?_; rintro e w1 ⟨rfl, hb⟩; rw [HWK.out]; clear c1 c2 c3)
        obtain ⟨fn, tmps, assign, body, hy, hR⟩ := HY.out pre ⟨first + k, HWK.out, HD.out⟩ w1 (HJ.out pre wr w1 none HJK.out (grown_of_below hb none) (fun r e => by cases e)) HLEN.out
        have HS1 := Lib.hid (HS.out.below hb)
        clear HS HJK hb
        dsimp only at hy
        rw [hy]
        gi_wp2
        refine hR.mono ?_
        clear hy hR
        rintro e W3 (⟨rfl, hj3, hk3⟩ | ⟨rfl, hx3⟩)
        · have HS3 := Lib.hid (HS1.out.keep hk3)
          have HJ3 := Lib.hid hj3
          clear hj3 hk3 HS1
          gi_wp2
          exact ⟨⟨k + 1, _, by omega, by go_num, HJ3.out, HS3.out, by rw [valsD_snoc, HV.out, HSN.out]; simp⟩, by simp [intOf]; omega⟩
        · have HX3 := Lib.hid hx3
          clear hx3
          gi_wp2
          refine bodyPost_ret (results_none rfl _ _ _) rfl ?_
          exact ⟨⟨_, rfl⟩, .inr ⟨_, hpart.out, HX3.out⟩⟩
    · obtain hkm : k = m.toNat := by omega
      have g1 : ¬ first + (k : Int) < first + m := by omega
      have HKM := Lib.hid hkm; clear hkm
      gi_wp2
      go_end0
      exact ⟨⟨_, rfl⟩, .inl ⟨pre, HV.out.trans (by rw [HKM.out]), HJK.out⟩⟩
def WdR (c : Cal) (first m : Int) (w : World) (e : Ending) (w' : World) : Prop :=
  ∃ P Q B1 B2 B3, e = .returned (.func (.func 128) #[] #[.pointer (some ⟨B1, 0, none⟩), .pointer (some ⟨B2, 0, none⟩), .pointer (some ⟨B3, 0, none⟩)]) ∧ Wd w' c P Q B1 B2 B3 first m ∧ Below w.heap.size w w' ∧ ∀ b ∈ [P, Q, B1, B2, B3], w.heap.size ≤ b
theorem wd_ne {w w0 : World} {c : Cal} {P Q B1 B2 B3 X : Nat} (hc : CalIn w0 c) (hX : w0.heap.size ≤ X) (hX2 : X < w.heap.size) (hf : ∀ b ∈ [P, Q, B1, B2, B3], w.heap.size ≤ b) : ∀ b ∈ wdB c P Q B1 B2 B3, b ≠ X := by
  intro b hb
  have h1 : b ∈ [P, Q, B1, B2, B3] ∨ b ∈ (if c.hol = [] then [] else (c.hA.map (·.block)).toList) := by
    simp only [wdB, List.mem_cons] at hb ⊢
    rcases hb with h | h | h | h | h | h
    · exact .inl (.inl h)
    · exact .inl (.inr (.inl h))
    · exact .inl (.inr (.inr (.inl h)))
    · exact .inl (.inr (.inr (.inr (.inl h))))
    · exact .inl (.inr (.inr (.inr (.inr (.inl h)))))
    · exact .inr h
  rcases h1 with h1 | h1
  · have := hf b h1; omega
  · by_cases h0 : c.hol = []
    · rw [if_pos h0] at h1; cases h1
    · rw [if_neg h0] at h1
      rcases hc.2.2.1 with h2 | ⟨b', off, hA, hb', _⟩
      · exact absurd (List.map_eq_nil_iff.1 h2) h0
      · rw [hA] at h1
        simp at h1
        omega
set_option maxHeartbeats 2000000 in
theorem wdmake_any (c : Cal) (first m : Int) (w : World) (hc : CalIn w c) (hv : calB c = true) :
    Calls Tryz.prog 94 #[calV c, iV first, iV m] w (WdR c first m w) := by
  have HV := Lib.hid (calB_zone hv)
  have HC := Lib.hid hc
  have HX : Hid ((((w.alloc (.cells #[iV c.zone, .slice c.wA c.week.length c.wc, .slice c.hA c.hol.length c.hc] 58)).alloc (.cells #[iV first] 3)).alloc (.cells #[iV m] 3)).heap[w.heap.size]? = some (.cells #[iV c.zone, .slice c.wA c.week.length c.wc, .slice c.hA c.hol.length c.hc] 58)) := (Below.heap_alloc _ _ _ (by simp; omega)).trans ((Below.heap_alloc _ _ _ (by simp)).trans (heap_alloc_new _ _))
  have HB1 : Hid ((((w.alloc (.cells #[iV c.zone, .slice c.wA c.week.length c.wc, .slice c.hA c.hol.length c.hc] 58)).alloc (.cells #[iV first] 3)).alloc (.cells #[iV m] 3)).heap[w.heap.size + 1]? = some (.cells #[iV first] 3 (0, 0))) := by
    refine (Below.heap_alloc _ _ _ (by simp)).trans ?_
    have := heap_alloc_new (w.alloc (.cells #[iV c.zone, .slice c.wA c.week.length c.wc, .slice c.hA c.hol.length c.hc] 58)) (.cells #[iV first] 3)
    rwa [World.size_alloc] at this
  have HB2 : Hid ((((w.alloc (.cells #[iV c.zone, .slice c.wA c.week.length c.wc, .slice c.hA c.hol.length c.hc] 58)).alloc (.cells #[iV first] 3)).alloc (.cells #[iV m] 3)).heap[w.heap.size + 1 + 1]? = some (.cells #[iV m] 3 (0, 0))) := by
    have := heap_alloc_new ((w.alloc (.cells #[iV c.zone, .slice c.wA c.week.length c.wc, .slice c.hA c.hol.length c.hc] 58)).alloc (.cells #[iV first] 3)) (.cells #[iV m] 3)
    rwa [World.size_alloc, World.size_alloc] at this
  have HB0 : Hid (Below w.heap.size w (((w.alloc (.cells #[iV c.zone, .slice c.wA c.week.length c.wc, .slice c.hA c.hol.length c.hc] 58)).alloc (.cells #[iV first] 3)).alloc (.cells #[iV m] 3))) := (((Below.refl _ w).alloc (Nat.le_refl _) _).alloc (by simp) _).alloc (by simp; omega) _
  clear hv hc
  go_enter Tryz.func94, Tryz.ntmps94
  go_upto_region 1 with fail
  change Code.wp _ _ _ _ (((w.alloc (.cells #[iV c.zone, .slice c.wA c.week.length c.wc, .slice c.hA c.hol.length c.hc] 58)).alloc (.cells #[iV first] 3)).alloc (.cells #[iV m] 3))
  generalize (((w.alloc (.cells #[iV c.zone, .slice c.wA c.week.length c.wc, .slice c.hA c.hol.length c.hc] 58)).alloc (.cells #[iV first] 3)).alloc (.cells #[iV m] 3)) = W0 at *
  have k0 : W0.cell? ⟨w.heap.size, 0, none⟩ = some (iV c.zone) := cell_of_row _ _ 0 _ _ _ HX.out
  have k1 : W0.cell? ⟨w.heap.size, 1, none⟩ = some (.slice c.wA c.week.length c.wc) := cell_of_row _ _ 1 _ _ _ HX.out
  have k2 : W0.cell? ⟨w.heap.size, 2, none⟩ = some (.slice c.hA c.hol.length c.hc) := cell_of_row _ _ 2 _ _ _ HX.out
  go_wp2_with fail
  refine (worker_any c _ (HC.out.below HB0.out) HV.out.2.2.1 (by have := HV.out.2.2.2.1; omega)).mono ?_
  rintro e w1 ⟨P, Q, rfl, hwk, hfP, hfQ, hb⟩
  have hsz := hb.size
  have hz0 := HB0.out.size
  have HW1 := Lib.hid hwk
  have HBB := Lib.hid (HB0.out.trans (hb.mono HB0.out.size))
  have H1 := Lib.hid ((hb.block _ (block_lt HB1.out)).trans HB1.out)
  have H2 := Lib.hid ((hb.block _ (block_lt HB2.out)).trans HB2.out)
  clear hwk hb k0 k1 k2
  go_wp2
  go_ret
  have hb5 := ba w1 (.cells #[.func (.func 160) #[] #[.pointer (some ⟨P, 0, none⟩), .pointer (some ⟨Q, 0, none⟩)]] 95)
  refine ⟨P, Q, w.heap.size + 1, w.heap.size + 1 + 1, w1.heap.size, rfl, ⟨HW1.out.below hb5, ?_, ?_, ?_⟩, HBB.out.trans (hb5.mono HBB.out.size), ?_⟩
  · exact cell_of_row _ _ 0 _ _ _ (box_below (w := w) H1.out hb5)
  · exact cell_of_row _ _ 0 _ _ _ (box_below (w := w) H2.out hb5)
  · exact cell_of_row _ _ 0 _ _ _ (heap_alloc_new _ _)
  · intro b hb
    simp only [List.mem_cons, List.not_mem_nil, or_false] at hb
    rcases hb with rfl | rfl | rfl | rfl | rfl <;> omega
theorem two_set {w W : World} {u v x y : Int} (hc4 : W.cell? ⟨w.heap.size + 1, 0, none⟩ = some (iV x)) (_hf4 : W.frozen? ⟨w.heap.size + 1, 0, none⟩ = false) (hc5 : W.cell? ⟨w.heap.size + 1 + 1, 0, none⟩ = some (iV y)) (_hf5 : W.frozen? ⟨w.heap.size + 1 + 1, 0, none⟩ = false) (hb : Below w.heap.size w W) :
    ((W.setCell ⟨w.heap.size + 1, 0, none⟩ (iV u)).setCell ⟨w.heap.size + 1 + 1, 0, none⟩ (iV v)).cell? ⟨w.heap.size + 1, 0, none⟩ = some (iV u) ∧ ((W.setCell ⟨w.heap.size + 1, 0, none⟩ (iV u)).setCell ⟨w.heap.size + 1 + 1, 0, none⟩ (iV v)).cell? ⟨w.heap.size + 1 + 1, 0, none⟩ = some (iV v) ∧ Below w.heap.size w ((W.setCell ⟨w.heap.size + 1, 0, none⟩ (iV u)).setCell ⟨w.heap.size + 1 + 1, 0, none⟩ (iV v)) := by
  have h1 : (W.setCell ⟨w.heap.size + 1, 0, none⟩ (iV u)).cell? ⟨w.heap.size + 1, 0, none⟩ = some (iV u) := World.cell?_setCell_same' _ _ _ (by rw [hc4]; rfl)
  have h2 : (W.setCell ⟨w.heap.size + 1, 0, none⟩ (iV u)).cell? ⟨w.heap.size + 1 + 1, 0, none⟩ = some (iV y) := by rw [World.cell?_setCell_other _ _ _ _ (by simp)]; exact hc5
  refine ⟨?_, World.cell?_setCell_same' _ _ _ (by rw [h2]; rfl), (hb.setCell (p := ⟨w.heap.size + 1, 0, none⟩) (by simp) _).setCell (p := ⟨w.heap.size + 1 + 1, 0, none⟩) (by simp; omega) _⟩
  rw [World.cell?_setCell_other _ _ _ _ (by simp)]
  exact h1
set_option maxHeartbeats 4000000 in
set_option maxRecDepth 100000 in
theorem next_any (c : Cal) (d : Int) (w : World) (hc : CalIn w c) (hv : calB c = true) (hd : dayR d = true) :
    Calls Tryz.prog 92 #[calV c, iV d] w fun e w' => e = .returned (.tuple #[iV (nextR c d).1, iV (nextR c d).2]) ∧ Below w.heap.size w w' := by
  have HV := Lib.hid hv
  have HZ := Lib.hid (calB_zone hv)
  have HDR := Lib.hid hd
  have hd' := hd
  unfold dayR at hd'
  simp only [Bool.and_eq_true, decide_eq_true_eq] at hd'
  obtain ⟨d1, d2⟩ := hd'
  clear hv hd
  have HC := Lib.hid hc
  have HX : Hid ((((w.alloc (.cells #[iV c.zone, .slice c.wA c.week.length c.wc, .slice c.hA c.hol.length c.hc] 58)).alloc (.cells #[iV 0] 3)).alloc (.cells #[iV 0] 44)).heap[w.heap.size]? = some (.cells #[iV c.zone, .slice c.wA c.week.length c.wc, .slice c.hA c.hol.length c.hc] 58)) := (Below.heap_alloc _ _ _ (by simp; omega)).trans ((Below.heap_alloc _ _ _ (by simp)).trans (heap_alloc_new _ _))
  have H1 : Hid ((((w.alloc (.cells #[iV c.zone, .slice c.wA c.week.length c.wc, .slice c.hA c.hol.length c.hc] 58)).alloc (.cells #[iV 0] 3)).alloc (.cells #[iV 0] 44)).heap[w.heap.size + 1]? = some (.cells #[iV 0] 3 (0, 0))) := by
    refine (Below.heap_alloc _ _ _ (by simp)).trans ?_
    have := heap_alloc_new (w.alloc (.cells #[iV c.zone, .slice c.wA c.week.length c.wc, .slice c.hA c.hol.length c.hc] 58)) (.cells #[iV 0] 3)
    rwa [World.size_alloc] at this
  have H2 : Hid ((((w.alloc (.cells #[iV c.zone, .slice c.wA c.week.length c.wc, .slice c.hA c.hol.length c.hc] 58)).alloc (.cells #[iV 0] 3)).alloc (.cells #[iV 0] 44)).heap[w.heap.size + 1 + 1]? = some (.cells #[iV 0] 44 (0, 0))) := by
    have := heap_alloc_new ((w.alloc (.cells #[iV c.zone, .slice c.wA c.week.length c.wc, .slice c.hA c.hol.length c.hc] 58)).alloc (.cells #[iV 0] 3)) (.cells #[iV 0] 44)
    rwa [World.size_alloc, World.size_alloc] at this
  have HB0 : Hid (Below w.heap.size w (((w.alloc (.cells #[iV c.zone, .slice c.wA c.week.length c.wc, .slice c.hA c.hol.length c.hc] 58)).alloc (.cells #[iV 0] 3)).alloc (.cells #[iV 0] 44))) := (((Below.refl _ w).alloc (Nat.le_refl _) _).alloc (by simp) _).alloc (by simp; omega) _
  clear hc
  refine calls_of_marks Tryz.func92 rfl ?_
  simp only [Tryz.ntmps92, List.size_toArray, List.length_cons, List.length_nil, Nat.reduceAdd, Nat.reduceSub, Array.replicate_succ, Array.replicate_zero, List.push_toArray, List.append_toArray, List.nil_append, List.cons_append]
  go_upto_region 1 with fail
  change Code.wp _ _ _ _ (((w.alloc (.cells #[iV c.zone, .slice c.wA c.week.length c.wc, .slice c.hA c.hol.length c.hc] 58)).alloc (.cells #[iV 0] 3)).alloc (.cells #[iV 0] 44))
  generalize (((w.alloc (.cells #[iV c.zone, .slice c.wA c.week.length c.wc, .slice c.hA c.hol.length c.hc] 58)).alloc (.cells #[iV 0] 3)).alloc (.cells #[iV 0] 44)) = W0 at *
  have k0 : W0.cell? ⟨w.heap.size, 0, none⟩ = some (iV c.zone) := cell_of_row _ _ 0 _ _ _ HX.out
  have k1 : W0.cell? ⟨w.heap.size, 1, none⟩ = some (.slice c.wA c.week.length c.wc) := cell_of_row _ _ 1 _ _ _ HX.out
  have k2 : W0.cell? ⟨w.heap.size, 2, none⟩ = some (.slice c.hA c.hol.length c.hc) := cell_of_row _ _ 2 _ _ _ HX.out
  go_wp2_with fail
  refine (valid_any c _ (HC.out.below HB0.out)).mono ?_
  rintro e w1 ⟨rfl, hb⟩
  rw [HV.out]
  have HX1 := Lib.hid (box_below (w := w) HX.out hb)
  have H11 := Lib.hid (box_below (w := w) H1.out hb)
  have H21 := Lib.hid (box_below (w := w) H2.out hb)
  have HB1 := Lib.hid (HB0.out.trans (hb.mono HB0.out.size))
  clear hb HX HB0 H1 H2 k0 k1 k2
  have k0 : w1.cell? ⟨w.heap.size, 0, none⟩ = some (iV c.zone) := cell_of_row _ _ 0 _ _ _ HX1.out
  have k1 : w1.cell? ⟨w.heap.size, 1, none⟩ = some (.slice c.wA c.week.length c.wc) := cell_of_row _ _ 1 _ _ _ HX1.out
  have k2 : w1.cell? ⟨w.heap.size, 2, none⟩ = some (.slice c.hA c.hol.length c.hc) := cell_of_row _ _ 2 _ _ _ HX1.out
  go_wp2_with fail
  refine (range_any d _).mono ?_
  rintro e w2 ⟨rfl, rfl⟩
  rw [HDR.out]
  go_wp2_with fail
  refine (wdmake_any c d 60 _ (HC.out.below HB1.out) HV.out).mono ?_
  rintro e w2 ⟨P, Q, B1, B2, B3, rfl, hwd, hb, -⟩
  have HWD := Lib.hid hwd
  have H12 := Lib.hid (box_below (w := w) H11.out hb)
  have H22 := Lib.hid (box_below (w := w) H21.out hb)
  have HB2 := Lib.hid (bt HB1.out hb)
  clear hwd hb H11 H21 HB1 HX1 k0 k1 k2
  go_wp2_with fail
  have hz2 : w.heap.size ≤ w2.heap.size := HB2.out.size
  have HWN := Lib.hid (wdays_next c 60 d)
  refine (wpIn_wide (n := 9)).1 (wpIn_rangeFunc_ownF (F := Fence.wide) (n := 9) rfl (by omega) (gf := 128) (lb := #[.pointer (some ⟨B1, 0, none⟩), .pointer (some ⟨B2, 0, none⟩), .pointer (some ⟨B3, 0, none⟩)]) rfl trivial (enters_of Tryz.func128 (by kernel_rfl) rfl)
    (days_stops c P Q B1 B2 B3 d 60 w2 HWD.out HZ.out.2.2.2.2 (by omega) (by omega) (by omega) (by omega)) keepN_t (keepN_b (wdB_lt HWD.out)) (Below.refl _ _) (fun _ => rfl)
    (fun pre W => pre = [] ∧ W.cell? ⟨w.heap.size + 1, 0, none⟩ = some (iV 0) ∧ W.frozen? ⟨w.heap.size + 1, 0, none⟩ = false ∧ W.cell? ⟨w.heap.size + 1 + 1, 0, none⟩ = some (iV 0) ∧ W.frozen? ⟨w.heap.size + 1 + 1, 0, none⟩ = false ∧ Below w.heap.size w W)
    (fun cd pre W => cd = .ret ∧ (∃ x, pre = [x] ∧ W.cell? ⟨w.heap.size + 1, 0, none⟩ = some (iV x.1)) ∧ W.cell? ⟨w.heap.size + 1 + 1, 0, none⟩ = some (iV 0) ∧ Below w.heap.size w W)
    (fun s A B row hs hg hr => ⟨hs.1, cell_kept hs.2.1 hg (fun r e => (hr r e).2), (frozen_kept hs.2.1 hg (fun r e => (hr r e).2)).trans hs.2.2.1, cell_kept hs.2.2.2.1 hg (fun r e => (hr r e).2), (frozen_kept hs.2.2.2.1 hg (fun r e => (hr r e).2)).trans hs.2.2.2.2.1, hs.2.2.2.2.2.grown hg hs.2.2.2.2.2.size (fun k e => Nat.le_trans hz2 (hr k e).1)⟩)
    (fun cd s A B row hs hg hr => ⟨hs.1, (by obtain ⟨x, h1, h2⟩ := hs.2.1; exact ⟨x, h1, cell_kept h2 hg (fun r e => (hr r e).2)⟩), cell_kept hs.2.2.1 hg (fun r e => (hr r e).2), hs.2.2.2.grown hg hs.2.2.2.size (fun k e => Nat.le_trans hz2 (hr k e).1)⟩)
    ⟨rfl, cell_of_row _ _ 0 _ _ _ H12.out, frozen_row H12.out 0, cell_of_row _ _ 0 _ _ _ H22.out, frozen_row H22.out 0, HB2.out⟩
    (fun x => { tmps := #[calV c, iV d, .pointer (some ⟨w.heap.size, 0, none⟩), undef, .pointer (some ⟨w.heap.size + 1, 0, none⟩), .pointer (some ⟨w.heap.size + 1 + 1, 0, none⟩), iV x.1, .agg #[iV c.zone, .slice c.wA c.week.length c.wc, .slice c.hA c.hol.length c.hc], .bool true, .bool false, .bool false, iV d, .bool true, .bool false, .bool false, .agg #[iV c.zone, .slice c.wA c.week.length c.wc, .slice c.hA c.hol.length c.hc], iV d, .func (.func 128) #[] #[.pointer (some ⟨B1, 0, none⟩), .pointer (some ⟨B2, 0, none⟩), .pointer (some ⟨B3, 0, none⟩)], iV x.1, undef], defers := [] }) ?assign ?body ?done ?stop)
  case assign =>
    intro l x W K hK
    gi_wp2
    exact hK
  case body =>
    rintro l pre x W ⟨rfl, hc4, hf4, hc5, hf5, hb⟩ _
    have HB := Lib.hid hb; clear hb
    gi_wp2
    have hs := two_set (u := x.1) (v := 0) hc4 hf4 hc5 hf5 HB.out
    exact ⟨(KeepsOthers.setCell _ _ _).trans (KeepsOthers.setCell _ _ _), rfl, ⟨x, rfl, hs.1⟩, hs.2.1, hs.2.2⟩
  case done =>
    rintro D xs W hD hS ⟨rfl, hc4, hf4, hc5, hf5, hb⟩ hK
    have HB := Lib.hid hb; clear hb
    have HN : Hid (nextR c d = (0, 20)) := by
      show _ = _
      unfold nextR
      rw [HWN.out.2 hS.symm]
    have HD := Lib.hid hK
    clear hS hK
    go_wp2
    have hs := two_set (u := 0) (v := 20) hc4 hf4 hc5 hf5 HB.out
    have hK' := ((KeepsOthers.setCell W ⟨w.heap.size + 1, 0, none⟩ (.int .i64 0)).trans (KeepsOthers.setCell _ ⟨w.heap.size + 1 + 1, 0, none⟩ (.int .i64 20))).same D _ HD.out rfl
    refine ⟨by simp, .inl ⟨_, _, rfl, run_takeDeferred hK', ?_⟩⟩
    have k4 := cell_kept hs.1 (grownBy_putObj' _ D (.deferred none)) (fun r e => by cases e; exact ⟨_, hK', rfl⟩)
    have k5 := cell_kept hs.2.1 (grownBy_putObj' _ D (.deferred none)) (fun r e => by cases e; exact ⟨_, hK', rfl⟩)
    refine ⟨.tuple #[iV 0, iV 20], by simp [results, Tryz.results92, go_sem, k4, k5], ?_, hs.2.2.grown (grownBy_putObj' _ D (.deferred none)) hs.2.2.size (fun k e => by cases e; omega)⟩
    rw [HN.out]
  case stop =>
    rintro D cd pre W hD hS ⟨rfl, ⟨x, rfl, hc4⟩, hc5, hb⟩ hK
    have HN : Hid (nextR c d = (x.1, 0)) := by
      show _ = _
      obtain ⟨y, p', t, he, ht⟩ := hS
      unfold nextR
      rw [HWN.out.1 x.1 t (by simpa [valsD] using ht)]
    have HB := Lib.hid hb; clear hb
    have HD := Lib.hid hK
    clear hS hK
    gi_wp2
    refine ⟨by simp, .inl ⟨_, _, rfl, run_takeDeferred HD.out, ?_⟩⟩
    have k4 := cell_kept hc4 (grownBy_putObj' _ D (.deferred none)) (fun r e => by cases e; exact ⟨_, HD.out, rfl⟩)
    have k5 := cell_kept hc5 (grownBy_putObj' _ D (.deferred none)) (fun r e => by cases e; exact ⟨_, HD.out, rfl⟩)
    refine ⟨.tuple #[iV x.1, iV 0], by simp [results, Tryz.results92, go_sem, k4, k5], ?_, HB.out.grown (grownBy_putObj' _ D (.deferred none)) HB.out.size (fun k e => by cases e; omega)⟩
    rw [HN.out]
end Go.Proofs.YtjpabeoflhkfkaaGreatDoor
namespace Go.Proofs.YtjpabeoflhkfkaaGreatDoor
open Go.RowKit

theorem nextR_in {c : Cal} {d x : Int} (h : nextR c d = (x, 0)) : d ≤ x ∧ x < d + 60 ∧ workB c x = true ∧ ∀ y, d ≤ y → y < x → workB c y = false := by
  unfold nextR at h
  cases hn : nextW c 60 d with
  | none => rw [hn] at h; cases h
  | some y =>
    rw [hn] at h
    cases h
    exact nextW_some hn
theorem nextR_cases (c : Cal) (d : Int) : (∃ x, nextR c d = (x, 0)) ∨ nextR c d = (0, 20) := by
  unfold nextR
  cases nextW c 60 d with
  | none => exact .inr rfl
  | some y => exact .inl ⟨y, rfl⟩
def firstDay (c : Cal) (m t : Int) : Int := if m < minOf c t then dayOf c t + 1 else dayOf c t
theorem firstR_eq (c : Cal) (m t : Int) : firstR c m t = if (nextR c (firstDay c m t)).2 = 0 then (timeOf c (nextR c (firstDay c m t)).1 m, 0) else (0, (nextR c (firstDay c m t)).2) := by
  unfold firstR firstDay nextR
  cases nextW c 60 (if m < minOf c t then dayOf c t + 1 else dayOf c t) <;> rfl
set_option maxHeartbeats 2000000 in
theorem first_any (c : Cal) (m t : Int) (w : World) (hc : CalIn w c) (hv : calB c = true) (hm1 : 0 ≤ m) (hm2 : m < 1440) (ht1 : -100000000 ≤ t) (ht2 : t ≤ 100000000) :
    Calls Tryz.prog 50 #[calV c, iV m, iV t] w fun e w' => e = .returned (.tuple #[iV (firstR c m t).1, iV (firstR c m t).2]) ∧ Below w.heap.size w w' := by
  obtain ⟨z1, z2, -⟩ := calB_zone hv
  have HV := Lib.hid hv; clear hv
  have HC := Lib.hid hc; clear hc
  have hday1 : -80000 ≤ dayOf c t := by unfold dayOf; omega
  have hday2 : dayOf c t ≤ 80000 := by unfold dayOf; omega
  have hmin1 : 0 ≤ minOf c t := by unfold minOf; omega
  have hmin2 : minOf c t < 1440 := by unfold minOf; omega
  have HX : Hid ((w.alloc (.cells #[iV c.zone, .slice c.wA c.week.length c.wc, .slice c.hA c.hol.length c.hc] 58)).heap[w.heap.size]? = some (.cells #[iV c.zone, .slice c.wA c.week.length c.wc, .slice c.hA c.hol.length c.hc] 58)) := heap_alloc_new _ _
  have HB0 := Lib.hid (ba w (.cells #[iV c.zone, .slice c.wA c.week.length c.wc, .slice c.hA c.hol.length c.hc] 58))
  have HFE := Lib.hid (firstR_eq c m t)
  have HFD : Hid (firstDay c m t = if m < minOf c t then dayOf c t + 1 else dayOf c t) := rfl
  generalize hdd : dayOf c t = dd at *
  generalize hmm : minOf c t = mm at *
  have HDD := Lib.hid hdd; have HMM := Lib.hid hmm; clear hdd hmm
  go_enter Tryz.func50, Tryz.ntmps50
  go_wp2_with fail
  refine (local_any c t _ (HC.out.below HB0.out) HV.out (by omega) (by omega)).mono ?_
  rintro e w1 ⟨rfl, hb⟩
  rw [HDD.out, HMM.out]
  have HX1 := Lib.hid (box_below (w := w) HX.out hb)
  have HB1 := Lib.hid (HB0.out.trans (hb.mono HB0.out.size))
  clear hb HX HB0
  have k0 : w1.cell? ⟨w.heap.size, 0, none⟩ = some (iV c.zone) := cell_of_row _ _ 0 _ _ _ HX1.out
  have k1 : w1.cell? ⟨w.heap.size, 1, none⟩ = some (.slice c.wA c.week.length c.wc) := cell_of_row _ _ 1 _ _ _ HX1.out
  have k2 : w1.cell? ⟨w.heap.size, 2, none⟩ = some (.slice c.hA c.hol.length c.hc) := cell_of_row _ _ 2 _ _ _ HX1.out
  have main : ∀ D : Int, firstDay c m t = D → -80000 ≤ D → D ≤ 80001 → Hid (firstDay c m t = D ∧ dayR D = true) := fun D h1 h2 h3 => ⟨h1, by unfold dayR; simp; omega⟩
  have MAIN := Lib.hid main; clear main
  by_cases hlt : m < mm
  · have HD := MAIN.out (dd + 1) (by rw [HFD.out, if_pos hlt]) (by omega) (by omega)
    go_wp2_with fail
    refine (next_any c (dd + 1) _ (HC.out.below HB1.out) HV.out HD.out.2).mono ?_
    rintro e w2 ⟨rfl, hb⟩
    have HX2 := Lib.hid (box_below (w := w) HX1.out hb)
    have HB2 := Lib.hid (bt HB1.out hb)
    clear hb HX1 HB1 k0 k1 k2
    have k0 : w2.cell? ⟨w.heap.size, 0, none⟩ = some (iV c.zone) := cell_of_row _ _ 0 _ _ _ HX2.out
    have k1 : w2.cell? ⟨w.heap.size, 1, none⟩ = some (.slice c.wA c.week.length c.wc) := cell_of_row _ _ 1 _ _ _ HX2.out
    have k2 : w2.cell? ⟨w.heap.size, 2, none⟩ = some (.slice c.hA c.hol.length c.hc) := cell_of_row _ _ 2 _ _ _ HX2.out
    rcases nextR_cases c (dd + 1) with ⟨x, hx⟩ | hx
    · have hin := nextR_in hx
      have hR : Hid (firstR c m t = (timeOf c x m, 0)) := by show _ = _; rw [HFE.out, HD.out.1, hx]; rfl
      have hdx : Hid (dayR x = true) := by show _ = _; unfold dayR; simp; omega
      rw [hx]
      clear hx hin
      go_wp2_with fail
      refine (time_any c x m _ (HC.out.below HB2.out) HV.out hdx.out hm1 hm2).mono ?_
      rintro e w3 ⟨rfl, hb⟩
      have HB3 := Lib.hid (bt HB2.out hb); clear hb
      go_wp2_with fail
      go_ret2
      rw [hR.out]
      exact ⟨rfl, HB3.out⟩
    · have hR : Hid (firstR c m t = (0, 20)) := by show _ = _; rw [HFE.out, HD.out.1, hx]; rfl
      rw [hx]
      clear hx
      go_wp2_with fail
      go_ret2
      rw [hR.out]
      exact ⟨rfl, HB2.out⟩
  · have HD := MAIN.out dd (by rw [HFD.out, if_neg hlt]) (by omega) (by omega)
    go_wp2_with fail
    refine (next_any c (dd) _ (HC.out.below HB1.out) HV.out HD.out.2).mono ?_
    rintro e w2 ⟨rfl, hb⟩
    have HX2 := Lib.hid (box_below (w := w) HX1.out hb)
    have HB2 := Lib.hid (bt HB1.out hb)
    clear hb HX1 HB1 k0 k1 k2
    have k0 : w2.cell? ⟨w.heap.size, 0, none⟩ = some (iV c.zone) := cell_of_row _ _ 0 _ _ _ HX2.out
    have k1 : w2.cell? ⟨w.heap.size, 1, none⟩ = some (.slice c.wA c.week.length c.wc) := cell_of_row _ _ 1 _ _ _ HX2.out
    have k2 : w2.cell? ⟨w.heap.size, 2, none⟩ = some (.slice c.hA c.hol.length c.hc) := cell_of_row _ _ 2 _ _ _ HX2.out
    rcases nextR_cases c (dd) with ⟨x, hx⟩ | hx
    · have hin := nextR_in hx
      have hR : Hid (firstR c m t = (timeOf c x m, 0)) := by show _ = _; rw [HFE.out, HD.out.1, hx]; rfl
      have hdx : Hid (dayR x = true) := by show _ = _; unfold dayR; simp; omega
      rw [hx]
      clear hx hin
      go_wp2_with fail
      refine (time_any c x m _ (HC.out.below HB2.out) HV.out hdx.out hm1 hm2).mono ?_
      rintro e w3 ⟨rfl, hb⟩
      have HB3 := Lib.hid (bt HB2.out hb); clear hb
      go_wp2_with fail
      go_ret2
      rw [hR.out]
      exact ⟨rfl, HB3.out⟩
    · have hR : Hid (firstR c m t = (0, 20)) := by show _ = _; rw [HFE.out, HD.out.1, hx]; rfl
      rw [hx]
      clear hx
      go_wp2_with fail
      go_ret2
      rw [hR.out]
      exact ⟨rfl, HB2.out⟩
end Go.Proofs.YtjpabeoflhkfkaaGreatDoor
namespace Go.Proofs.YtjpabeoflhkfkaaGreatDoor
open Go.RowKit
attribute [local go_sem] Oper.semAt_some

def countR (c : Cal) (a b : Int) : Int := if a + 2000 < b then -1 else (wdays c (b - a).toNat (a + 1)).length
set_option maxHeartbeats 4000000 in
set_option maxRecDepth 100000 in
theorem count_any (c : Cal) (a b : Int) (w : World) (hc : CalIn w c) (hv : calB c = true) (ha : dayR a = true) (hb : dayR b = true) :
    Calls Tryz.prog 86 #[calV c, iV a, iV b] w fun e w' => e = .returned (iV (countR c a b)) ∧ Below w.heap.size w w' := by
  have HV := Lib.hid hv
  have HZ := Lib.hid (calB_zone hv)
  have HDA := Lib.hid ha
  have HDB := Lib.hid hb
  unfold dayR at ha hb
  simp only [Bool.and_eq_true, decide_eq_true_eq] at ha hb
  obtain ⟨a1, a2⟩ := ha
  obtain ⟨b1, b2⟩ := hb
  have HC := Lib.hid hc
  clear hc hv
  have HX : Hid ((w.alloc (.cells #[iV c.zone, .slice c.wA c.week.length c.wc, .slice c.hA c.hol.length c.hc] 58)).heap[w.heap.size]? = some (.cells #[iV c.zone, .slice c.wA c.week.length c.wc, .slice c.hA c.hol.length c.hc] 58)) := heap_alloc_new _ _
  have HB0 := Lib.hid (ba w (.cells #[iV c.zone, .slice c.wA c.week.length c.wc, .slice c.hA c.hol.length c.hc] 58))
  refine calls_of_marks Tryz.func86 rfl ?_
  simp only [Tryz.ntmps86, List.size_toArray, List.length_cons, List.length_nil, Nat.reduceAdd, Nat.reduceSub, Array.replicate_succ, Array.replicate_zero, List.push_toArray, List.append_toArray, List.nil_append, List.cons_append]
  go_upto_region 1 with fail
  change Code.wp _ _ _ _ (w.alloc (.cells #[iV c.zone, .slice c.wA c.week.length c.wc, .slice c.hA c.hol.length c.hc] 58))
  generalize (w.alloc (.cells #[iV c.zone, .slice c.wA c.week.length c.wc, .slice c.hA c.hol.length c.hc] 58)) = W0 at *
  have k0 : W0.cell? ⟨w.heap.size, 0, none⟩ = some (iV c.zone) := cell_of_row _ _ 0 _ _ _ HX.out
  have k1 : W0.cell? ⟨w.heap.size, 1, none⟩ = some (.slice c.wA c.week.length c.wc) := cell_of_row _ _ 1 _ _ _ HX.out
  have k2 : W0.cell? ⟨w.heap.size, 2, none⟩ = some (.slice c.hA c.hol.length c.hc) := cell_of_row _ _ 2 _ _ _ HX.out
  go_wp2_with fail
  refine (valid_any c _ (HC.out.below HB0.out)).mono ?_
  rintro e w1 ⟨rfl, hb⟩
  rw [HV.out]
  have HX1 := Lib.hid (box_below (w := w) HX.out hb)
  have HB1 := Lib.hid (HB0.out.trans (hb.mono HB0.out.size))
  clear hb HX HB0 k0 k1 k2
  have k0 : w1.cell? ⟨w.heap.size, 0, none⟩ = some (iV c.zone) := cell_of_row _ _ 0 _ _ _ HX1.out
  have k1 : w1.cell? ⟨w.heap.size, 1, none⟩ = some (.slice c.wA c.week.length c.wc) := cell_of_row _ _ 1 _ _ _ HX1.out
  have k2 : w1.cell? ⟨w.heap.size, 2, none⟩ = some (.slice c.hA c.hol.length c.hc) := cell_of_row _ _ 2 _ _ _ HX1.out
  go_wp2_with fail
  refine (range_any a _).mono ?_
  rintro e w2 ⟨rfl, rfl⟩
  rw [HDA.out]
  go_wp2_with fail
  refine (range_any b _).mono ?_
  rintro e w2 ⟨rfl, rfl⟩
  rw [HDB.out]
  by_cases hfar : a + 2000 < b
  · have HR : Hid (countR c a b = -1) := by show _ = _; unfold countR; rw [if_pos hfar]
    go_wp2_with fail
    all_goals first | (exfalso; omega) | skip
    refine ⟨_, by simp [results, Tryz.results86]; rfl, ?_, HB1.out⟩
    rw [HR.out]
  · have HR : Hid (countR c a b = (wdays c (b - a).toNat (a + 1)).length) := by show _ = _; unfold countR; rw [if_neg hfar]
    have hz1 : w.heap.size < w1.heap.size := block_lt HX1.out
    have HW7 := Lib.hid (heap_alloc_new w1 (.cells #[iV 0] 3))
    have HB7 := Lib.hid (bt HB1.out (ba w1 (.cells #[iV 0] 3)))
    have HX7 := Lib.hid (box_below (w := w) HX1.out (ba w1 (.cells #[iV 0] 3)))
    clear k0 k1 k2
    have k0 : (w1.alloc (.cells #[iV 0] 3)).cell? ⟨w.heap.size, 0, none⟩ = some (iV c.zone) := cell_of_row _ _ 0 _ _ _ HX7.out
    have k1 : (w1.alloc (.cells #[iV 0] 3)).cell? ⟨w.heap.size, 1, none⟩ = some (.slice c.wA c.week.length c.wc) := cell_of_row _ _ 1 _ _ _ HX7.out
    have k2 : (w1.alloc (.cells #[iV 0] 3)).cell? ⟨w.heap.size, 2, none⟩ = some (.slice c.hA c.hol.length c.hc) := cell_of_row _ _ 2 _ _ _ HX7.out
    go_wp2_with fail
    all_goals first | (exfalso; omega) | skip
    refine (wdmake_any c (a + 1) (b - a) _ (HC.out.below HB7.out) HV.out).mono ?_
    rintro e w2 ⟨P, Q, B1, B2, B3, rfl, hwd, hb, hfr⟩
    have HNE := Lib.hid (wd_ne HC.out (Nat.le_of_lt hz1) (by simp) hfr)
    have HWD := Lib.hid hwd
    have H7 := Lib.hid (box_below (w := w) HW7.out hb)
    have HB2 := Lib.hid (bt HB7.out hb)
    clear hwd hb hfr HW7 HB7 HX7 HX1 HB1 k0 k1 k2
    go_wp2_with fail
    have hz2 : w.heap.size ≤ w2.heap.size := HB2.out.size
    refine (wpIn_wide (n := 9)).1 (wpIn_rangeFunc_ownF (F := Fence.wide) (n := 9) rfl (by omega) (gf := 128) (lb := #[.pointer (some ⟨B1, 0, none⟩), .pointer (some ⟨B2, 0, none⟩), .pointer (some ⟨B3, 0, none⟩)]) rfl trivial (enters_of Tryz.func128 (by kernel_rfl) rfl)
      (days_stops c P Q B1 B2 B3 (a + 1) (b - a) w2 HWD.out HZ.out.2.2.2.2 (by omega) (by omega) (by omega) (by omega)) keepN_t (keepN_b (wdB_lt HWD.out)) (Below.refl _ _) (fun _ => rfl)
      (fun pre W => W.cell? ⟨w1.heap.size, 0, none⟩ = some (iV (pre.length : Nat)) ∧ W.frozen? ⟨w1.heap.size, 0, none⟩ = false ∧ Below w.heap.size w W)
      (fun cd pre W => False)
      (fun s A B row hs hg hr => ⟨cell_kept hs.1 hg (fun r e => (hr r e).2), (frozen_kept hs.1 hg (fun r e => (hr r e).2)).trans hs.2.1, hs.2.2.grown hg hs.2.2.size (fun k e => Nat.le_trans hz2 (hr k e).1)⟩)
      (fun cd s A B row hs hg hr => hs)
      ⟨cell_of_row _ _ 0 _ _ _ H7.out, frozen_row H7.out 0, HB2.out⟩
      (fun x => { tmps := #[calV c, iV a, iV b, .pointer (some ⟨w.heap.size, 0, none⟩), undef, undef, iV 0, .pointer (some ⟨w1.heap.size, 0, none⟩), .agg #[iV c.zone, .slice c.wA c.week.length c.wc, .slice c.hA c.hol.length c.hc], .bool true, .bool false, .bool false, iV a, .bool true, .bool false, .bool false, .bool false, iV b, .bool true, .bool false, .bool false, .bool false, iV b, iV a, iV (a + 2000), .bool (decide (a + 2000 < b)), .bool (decide (a + 2000 < b)), .agg #[iV c.zone, .slice c.wA c.week.length c.wc, .slice c.hA c.hol.length c.hc], iV a, iV (a + 1), iV b, iV a, iV (b - a), .func (.func 128) #[] #[.pointer (some ⟨B1, 0, none⟩), .pointer (some ⟨B2, 0, none⟩), .pointer (some ⟨B3, 0, none⟩)], iV x.1, undef, undef, undef], defers := [] }) ?assign ?body ?done ?stop)
    case assign =>
      intro l x W K hK
      gi_wp2
      exact hK
    case body =>
      rintro l pre x W ⟨hc4, hf4, hb⟩ hlen
      have HB := Lib.hid hb; clear hb
      have hl2 : (pre.length : Int) < 3000000 := by omega
      clear hlen
      gi_wp2
      refine ⟨KeepsOthers.setCell _ _ _, ⟨fun b hb => Below.heap_setCell _ _ _ _ (by show b ≠ _; exact HNE.out b hb), by simp [World.setCell]⟩, ?_, by rw [World.frozen?_setCell]; exact hf4, HB.out.setCell (p := ⟨w1.heap.size, 0, none⟩) (Nat.le_of_lt hz1) _⟩
      rw [World.cell?_setCell_same' _ _ _ (by rw [hc4]; rfl)]
      simp
    case done =>
      rintro D xs W hD hS ⟨hc4, hf4, hb⟩ hK
      have HB := Lib.hid hb; clear hb
      have hxl : xs.length = (wdays c (b - a).toNat (a + 1)).length := by rw [← hS]; simp [valsD]
      have HXL := Lib.hid hxl
      have HD := Lib.hid hK
      clear hS hK hxl
      go_wp2
      refine ⟨by simp, .inl ⟨_, _, rfl, run_takeDeferred HD.out, ?_⟩⟩
      refine ⟨_, by simp [results, Tryz.results86]; rfl, ?_, HB.out.grown (grownBy_putObj' _ D (.deferred none)) HB.out.size (fun k e => by cases e; omega)⟩
      rw [HR.out, ← HXL.out]
    case stop =>
      rintro D cd pre W hD hS h hK
      exact h.elim
end Go.Proofs.YtjpabeoflhkfkaaGreatDoor
namespace Go.Proofs.YtjpabeoflhkfkaaGreatDoor
open Go.RowKit
attribute [local go_sem] Oper.semAt_some

end Go.Proofs.YtjpabeoflhkfkaaGreatDoor
namespace Go.Proofs.YtjpabeoflhkfkaaGreatDoor
open Go.RowKit
attribute [local go_sem] Oper.semAt_some

theorem row_set9 {w : World} {B : Nat} {cs : Array Value} {t : TypeId} {fr : Nat × Nat} (h : w.heap[B]? = some (.cells cs t fr)) (j : Nat) (v : Value) : (w.setCell ⟨B, j, none⟩ v).heap[B]? = some (.cells (cs.setIfInBounds j v) t fr) := by
  have hlt := block_lt h
  have hh : w.heap[B] = .cells cs t fr := (Array.getElem?_eq_some_iff.1 h).2
  simp only [World.setCell]
  rw [Array.getElem?_eq_getElem (by rw [Array.size_modify]; exact hlt), Array.getElem_modify_self, hh]
  rfl
theorem row_other9 {w : World} {B C : Nat} {o : Obj} (h : w.heap[B]? = some o) (hne : B ≠ C) (j : Nat) (v : Value) : (w.setCell ⟨C, j, none⟩ v).heap[B]? = some o := (Below.heap_setCell _ _ _ _ hne).trans h
/-- The marks that ranges over functions leave among the deferred calls. -/
abbrev markD (D : Nat) : Deferred := { target := .collected D, args := #[] }
/-- All of them hold no call. -/
def MarksIn (b : Nat) (W : World) (Ds : List Nat) : Prop := Ds.Nodup ∧ ∀ D ∈ Ds, b ≤ D ∧ W.heap[D]? = some (.deferred (some []))
theorem MarksIn.take {b : Nat} {W : World} {D : Nat} {Ds : List Nat} (h : MarksIn b W (D :: Ds)) : MarksIn b (W.putObj D (.deferred none)) Ds := by
  obtain ⟨h1, h2⟩ := h
  rw [List.nodup_cons] at h1
  refine ⟨h1.2, fun E hE => ?_⟩
  obtain ⟨h3, h4⟩ := h2 E (List.mem_cons_of_mem _ hE)
  exact ⟨h3, (World.putObj_heap_other (fun e => h1.1 (by first | (rw [← e]; exact hE) | (rw [e]; exact hE)))).trans h4⟩
/-- A function that has only marks among its deferred calls returns. -/
theorem leaves_marks {P : Program} {F : Fence} {n : Nat} {fn : Func} {tmps : Array Value} {R : Ending → World → Prop} {v : Value} {w0 : World} : ∀ (Ds : List Nat) (W : World), MarksIn w0.heap.size W Ds → Below w0.heap.size w0 W →
    (∀ W', Below w0.heap.size w0 W' → (results fn tmps).run P W' = .ok v W' ∧ R (.returned v) W') → LeavesInM F n P fn tmps R (Ds.map markD) .returning W
  | [], W, _, hb, h => by
    obtain ⟨h1, h2⟩ := h W hb
    exact ⟨v, h1, h2⟩
  | D :: Ds, W, hm, hb, h => by
    obtain ⟨h1, h2⟩ := hm.2 D (List.mem_cons_self ..)
    refine ⟨by simp, .inl ⟨_, _, rfl, run_takeDeferred h2, ?_⟩⟩
    exact leaves_marks Ds _ hm.take (hb.grown (grownBy_putObj' _ D (.deferred none)) hb.size (fun k e => by cases e; exact h1)) h
theorem MarksIn.grown {b : Nat} {W W' : World} {r : Nat} {Ds : List Nat} (h : MarksIn b W Ds) (hg : W.grownBy W' (some r)) (hr : ∀ D ∈ Ds, D ≠ r) : MarksIn b W' Ds :=
  ⟨h.1, fun D hD => ⟨(h.2 D hD).1, (hg.block D (block_lt (h.2 D hD).2) (fun e => by cases e; exact hr _ hD rfl)).trans (h.2 D hD).2⟩⟩
theorem MarksIn.below {b : Nat} {W W' : World} {Ds : List Nat} (h : MarksIn b W Ds) (hb : Below W.heap.size W W') : MarksIn b W' Ds :=
  ⟨h.1, fun D hD => ⟨(h.2 D hD).1, (hb.block D (block_lt (h.2 D hD).2)).trans (h.2 D hD).2⟩⟩
theorem MarksIn.set {b : Nat} {W : World} {Ds : List Nat} (h : MarksIn b W Ds) {p : Nat} (hp : ∀ D ∈ Ds, D ≠ p) (v : Value) : MarksIn b (W.setCell ⟨p, 0, none⟩ v) Ds :=
  ⟨h.1, fun D hD => ⟨(h.2 D hD).1, (Below.heap_setCell _ _ _ _ (hp D hD)).trans (h.2 D hD).2⟩⟩
theorem MarksIn.lt {b : Nat} {W : World} {Ds : List Nat} (h : MarksIn b W Ds) : ∀ D ∈ Ds, D < W.heap.size := fun D hD => block_lt (h.2 D hD).2
/-- Add's boxes and marks. -/
structure AdS (w : World) (c : Cal) (W : World) (day : Int) (Ds : List Nat) : Prop where
  bel : Below w.heap.size w W
  box : W.heap[w.heap.size]? = some (.cells #[iV c.zone, .slice c.wA c.week.length c.wc, .slice c.hA c.hol.length c.hc] 58 (0, 0))
  day : W.heap[w.heap.size + 1]? = some (.cells #[iV day] 3 (0, 0))
  marks : MarksIn w.heap.size W Ds
theorem AdS.below {w W W' : World} {c : Cal} {day : Int} {Ds : List Nat} (h : AdS w c W day Ds) (hb : Below W.heap.size W W') : AdS w c W' day Ds :=
  ⟨bt h.bel hb, (hb.block _ (block_lt h.box)).trans h.box, (hb.block _ (block_lt h.day)).trans h.day, h.marks.below hb⟩
theorem AdS.grown {w W W' : World} {c : Cal} {day : Int} {Ds : List Nat} {r : Nat} (h : AdS w c W day Ds) (hg : W.grownBy W' (some r)) (h1 : w.heap.size + 1 < r) (h2 : ∀ D ∈ Ds, D < r) : AdS w c W' day Ds :=
  ⟨h.bel.grown hg h.bel.size (fun k e => by cases e; omega), (hg.block _ (block_lt h.box) (fun e => by cases e; omega)).trans h.box, (hg.block _ (block_lt h.day) (fun e => by cases e; omega)).trans h.day, h.marks.grown hg (fun D hD e => by have := h2 D hD; omega)⟩
theorem AdS.set {w W : World} {c : Cal} {day : Int} {Ds : List Nat} (h : AdS w c W day Ds) (x : Int) : AdS w c (W.setCell ⟨w.heap.size + 1, 0, none⟩ (iV x)) x Ds :=
  ⟨h.bel.setCell (by simp) _, row_other9 h.box (by omega) _ _, row_set9 h.day 0 _, h.marks.set (fun D hD e => by
    obtain ⟨-, h3⟩ := h.marks.2 D hD
    rw [e, h.day] at h3
    cases h3) _⟩
theorem AdS.mark {w W : World} {c : Cal} {day : Int} {Ds : List Nat} {D : Nat} (h : AdS w c W day Ds) (hD : W.heap[D]? = some (.deferred (some []))) (h1 : w.heap.size ≤ D) (h2 : ∀ E ∈ Ds, E < D) : AdS w c W day (D :: Ds) :=
  ⟨h.bel, h.box, h.day, List.nodup_cons.2 ⟨fun hm => by have := h2 D hm; omega, h.marks.1⟩, fun E hE => by
    rcases List.mem_cons.1 hE with rfl | hE
    · exact ⟨h1, hD⟩
    · exact h.marks.2 E hE⟩
theorem AdS.grownO {w W W' : World} {c : Cal} {day : Int} {Ds : List Nat} {row : Option Nat} {b : Nat} (h : AdS w c W day Ds) (hg : W.grownBy W' row) (hr : ∀ r, row = some r → b ≤ r) (h1 : w.heap.size + 1 < b) (h2 : ∀ D ∈ Ds, D < b) : AdS w c W' day Ds :=
  ⟨h.bel.grown hg h.bel.size (fun k e => by have := hr k e; omega), (hg.block _ (block_lt h.box) (fun e => by have := hr _ e.symm; omega)).trans h.box, (hg.block _ (block_lt h.day) (fun e => by have := hr _ e.symm; omega)).trans h.day,
    h.marks.1, fun D hD => ⟨(h.marks.2 D hD).1, (hg.block D (block_lt (h.marks.2 D hD).2) (fun e => by have := hr _ e.symm; have := h2 D hD; omega)).trans (h.marks.2 D hD).2⟩⟩
theorem row_grownO {W W' : World} {row : Option Nat} {b B : Nat} {o : Obj} (h : W.heap[B]? = some o) (hg : W.grownBy W' row) (hr : ∀ r, row = some r → b ≤ r) (hB : B < b) : W'.heap[B]? = some o :=
  (hg.block _ (block_lt h) (fun e => by have := hr _ e.symm; omega)).trans h
theorem AdS.setO {w W : World} {c : Cal} {day : Int} {Ds : List Nat} (h : AdS w c W day Ds) {p : Nat} (h1 : w.heap.size + 1 < p) (_h2 : w.heap.size ≤ p) (h3 : ∀ D ∈ Ds, D ≠ p) (v : Value) : AdS w c (W.setCell ⟨p, 0, none⟩ v) day Ds :=
  ⟨h.bel.setCell (by simp; omega) _, row_other9 h.box (by omega) _ _, row_other9 h.day (by omega) _ _, h.marks.set h3 _⟩
/-- The n-th working day after a day: the day, or an error. -/
def addN (c : Cal) (n : Nat) (d : Int) : Int × Int := match addR c n d with
  | some x => (x, 0)
  | none => (0, 20)
theorem addN_none {c : Cal} {n : Nat} {d : Int} (h : nextW c 60 (d + 1) = none) : addN c (n + 1) d = (0, 20) := by unfold addN addR; rw [h]; rfl
theorem addN_some {c : Cal} {n : Nat} {d x : Int} (h : nextW c 60 (d + 1) = some x) : addN c (n + 1) d = addN c n x := by unfold addN; rw [addR, h]; rfl
set_option maxHeartbeats 8000000 in
set_option maxRecDepth 100000 in
theorem addn_any (c : Cal) (d : Int) (n : Nat) (w : World) (hc : CalIn w c) (hv : calB c = true) (hd : dayR d = true) (hn : n ≤ 200) :
    Calls Tryz.prog 56 #[calV c, iV d, iV n] w fun e w' => e = .returned (.tuple #[iV (addN c n d).1, iV (addN c n d).2]) ∧ Below w.heap.size w w' := by
  have HV := Lib.hid hv
  have HZ := Lib.hid (calB_zone hv)
  have HDR := Lib.hid hd
  unfold dayR at hd
  simp only [Bool.and_eq_true, decide_eq_true_eq] at hd
  obtain ⟨d1, d2⟩ := hd
  have HC := Lib.hid hc
  clear hc hv
  have HX : Hid (((w.alloc (.cells #[iV c.zone, .slice c.wA c.week.length c.wc, .slice c.hA c.hol.length c.hc] 58)).alloc (.cells #[iV d] 3)).heap[w.heap.size]? = some (.cells #[iV c.zone, .slice c.wA c.week.length c.wc, .slice c.hA c.hol.length c.hc] 58)) := (Below.heap_alloc _ _ _ (by simp)).trans (heap_alloc_new _ _)
  have H1 : Hid (((w.alloc (.cells #[iV c.zone, .slice c.wA c.week.length c.wc, .slice c.hA c.hol.length c.hc] 58)).alloc (.cells #[iV d] 3)).heap[w.heap.size + 1]? = some (.cells #[iV d] 3 (0, 0))) := by
    have := heap_alloc_new (w.alloc (.cells #[iV c.zone, .slice c.wA c.week.length c.wc, .slice c.hA c.hol.length c.hc] 58)) (.cells #[iV d] 3)
    rwa [World.size_alloc] at this
  have HB0 : Hid (Below w.heap.size w ((w.alloc (.cells #[iV c.zone, .slice c.wA c.week.length c.wc, .slice c.hA c.hol.length c.hc] 58)).alloc (.cells #[iV d] 3))) := ((Below.refl _ w).alloc (Nat.le_refl _) _).alloc (by simp) _
  refine calls_of_marks Tryz.func56 rfl ?_
  simp only [Tryz.ntmps56, List.size_toArray, List.length_cons, List.length_nil, Nat.reduceAdd, Nat.reduceSub, Array.replicate_succ, Array.replicate_zero, List.push_toArray, List.append_toArray, List.nil_append, List.cons_append]
  go_upto_region 1 with fail
  change Code.wp _ _ _ _ ((w.alloc (.cells #[iV c.zone, .slice c.wA c.week.length c.wc, .slice c.hA c.hol.length c.hc] 58)).alloc (.cells #[iV d] 3))
  generalize ((w.alloc (.cells #[iV c.zone, .slice c.wA c.week.length c.wc, .slice c.hA c.hol.length c.hc] 58)).alloc (.cells #[iV d] 3)) = W0 at *
  have k0 : W0.cell? ⟨w.heap.size, 0, none⟩ = some (iV c.zone) := cell_of_row _ _ 0 _ _ _ HX.out
  have k1 : W0.cell? ⟨w.heap.size, 1, none⟩ = some (.slice c.wA c.week.length c.wc) := cell_of_row _ _ 1 _ _ _ HX.out
  have k2 : W0.cell? ⟨w.heap.size, 2, none⟩ = some (.slice c.hA c.hol.length c.hc) := cell_of_row _ _ 2 _ _ _ HX.out
  have kd : W0.cell? ⟨w.heap.size + 1, 0, none⟩ = some (iV d) := cell_of_row _ _ 0 _ _ _ H1.out
  go_wp2_with fail
  refine (valid_any c _ (HC.out.below HB0.out)).mono ?_
  rintro e w1 ⟨rfl, hb⟩
  rw [HV.out]
  have HA1 : Hid (AdS w c w1 d []) := ⟨HB0.out.trans (hb.mono HB0.out.size), box_below (w := w) HX.out hb, box_below (w := w) H1.out hb, List.nodup_nil, fun D hD => by cases hD⟩
  clear hb HX H1 HB0 k0 k1 k2 kd
  have k0 : w1.cell? ⟨w.heap.size, 0, none⟩ = some (iV c.zone) := cell_of_row _ _ 0 _ _ _ HA1.out.box
  have k1 : w1.cell? ⟨w.heap.size, 1, none⟩ = some (.slice c.wA c.week.length c.wc) := cell_of_row _ _ 1 _ _ _ HA1.out.box
  have k2 : w1.cell? ⟨w.heap.size, 2, none⟩ = some (.slice c.hA c.hol.length c.hc) := cell_of_row _ _ 2 _ _ _ HA1.out.box
  have kd : w1.cell? ⟨w.heap.size + 1, 0, none⟩ = some (iV d) := cell_of_row _ _ 0 _ _ _ HA1.out.day
  have hn0 : (0 : Int) ≤ (n : Int) := by omega
  have hn1 : (n : Int) ≤ 200 := by omega
  go_wp2_with fail
  refine (range_any d _).mono ?_
  rintro e w2 ⟨rfl, rfl⟩
  rw [HDR.out]
  go_wp2_with fail
  clear k0 k1 k2 kd
  refine wp_loop (fun a W => ∃ (k : Nat) (day : Int) (Ds : List Nat) (u8 u9 u20 u21 u22 u24 u25 u28 u29 u30 u31 u32 u33 u34 u35 u36 u37 u38 : Value), k ≤ n ∧ AdS w c W day Ds ∧ addN c n d = addN c (n - k) day ∧ -1000000 ≤ day ∧ day ≤ 1000000 + 60 * k ∧
    a = { tmps := #[calV c, iV d, iV n, .pointer (some ⟨w.heap.size, 0, none⟩), .pointer (some ⟨w.heap.size + 1, 0, none⟩), undef, iV 0, iV 0, u8, u9, .agg #[iV c.zone, .slice c.wA c.week.length c.wc, .slice c.hA c.hol.length c.hc], .bool true, .bool false, .bool false, iV d, .bool true, .bool false, .bool false, .bool false, iV n, u20, u21, u22, iV n, u24, u25, iV n, iV k, u28, u29, u30, u31, u32, u33, u34, u35, u36, u37, u38], defers := Ds.map markD })
    (fun a _ => n + 1 - (intOf (a.tmps.getD 27 undef)).toNat) ?start ?round
  case start => exact ⟨0, d, [], _, _, _, _, _, _, _, _, _, _, _, _, _, _, _, _, _, _, by omega, HA1.out, rfl, d1, by omega, rfl⟩
  case round =>
    rintro a W ⟨k, day, Ds, u8, u9, u20, u21, u22, u24, u25, u28, u29, u30, u31, u32, u33, u34, u35, u36, u37, u38, hk, hA, hR, y1, y2, rfl⟩
    have HA := Lib.hid hA
    have HR := Lib.hid hR
    have hkz : (0 : Int) ≤ (k : Int) := by omega
    clear hA hR
    by_cases hlt : k < n
    case neg =>
      obtain rfl : k = n := by omega
      have hk1 : ¬ (k : Int) < (k : Int) := by omega
      have kd : W.cell? ⟨w.heap.size + 1, 0, none⟩ = some (iV day) := cell_of_row _ _ 0 _ _ _ HA.out.day
      have HRE : Hid (addN c k d = (day, 0)) := by
        show _ = _
        rw [HR.out, Nat.sub_self]
        rfl
      go_wp2_with fail
      refine leaves_marks Ds _ HA.out.marks HA.out.bel (fun W' hb' => ⟨by simp [results, Tryz.results56]; rfl, ?_, hb'⟩)
      rw [HRE.out]
    have HLT := Lib.hid hlt
    have hk1 : (k : Int) < (n : Int) := by omega
    have H8 := Lib.hid (heap_alloc_new W (.cells #[oV false] 4))
    have HA8 := Lib.hid (HA.out.below (ba W (.cells #[oV false] 4)))
    have hz1 : w.heap.size + 1 < W.heap.size := block_lt HA.out.day
    have k0 : (W.alloc (.cells #[oV false] 4)).cell? ⟨w.heap.size, 0, none⟩ = some (iV c.zone) := cell_of_row _ _ 0 _ _ _ HA8.out.box
    have k1 : (W.alloc (.cells #[oV false] 4)).cell? ⟨w.heap.size, 1, none⟩ = some (.slice c.wA c.week.length c.wc) := cell_of_row _ _ 1 _ _ _ HA8.out.box
    have k2 : (W.alloc (.cells #[oV false] 4)).cell? ⟨w.heap.size, 2, none⟩ = some (.slice c.hA c.hol.length c.hc) := cell_of_row _ _ 2 _ _ _ HA8.out.box
    have kd : (W.alloc (.cells #[oV false] 4)).cell? ⟨w.heap.size + 1, 0, none⟩ = some (iV day) := cell_of_row _ _ 0 _ _ _ HA8.out.day
    go_wp2_with fail
    refine (wdmake_any c (day + 1) 60 _ (HC.out.below HA8.out.bel) HV.out).mono ?_
    rintro e w2 ⟨P, Q, B1, B2, B3, rfl, hwd, hb, hfr⟩
    have HWD := Lib.hid hwd
    have HA2 := Lib.hid (HA8.out.below hb)
    have H82 := Lib.hid (box_below (w := w) H8.out hb)
    have hz2 : W.heap.size < w2.heap.size := block_lt H82.out
    have HML := Lib.hid HA.out.marks.lt
    clear hwd hb hfr H8 HA8 k0 k1 k2 kd
    go_wp2_with fail
    have HWN := Lib.hid (wdays_next c 60 (day + 1))
    refine (wpIn_wide (n := 9)).1 (wpIn_rangeFunc_ownF (F := Fence.wide) (n := 9) rfl (by omega) (gf := 128) (lb := #[.pointer (some ⟨B1, 0, none⟩), .pointer (some ⟨B2, 0, none⟩), .pointer (some ⟨B3, 0, none⟩)]) rfl trivial (enters_of Tryz.func128 (by kernel_rfl) rfl)
      (days_stops c P Q B1 B2 B3 (day + 1) 60 w2 HWD.out HZ.out.2.2.2.2 (by omega) (by omega) (by omega) (by omega)) keepN_t (keepN_b (wdB_lt HWD.out)) (Below.refl _ _) (fun _ => rfl)
      (fun pre X => pre = [] ∧ AdS w c X day Ds ∧ X.heap[W.heap.size]? = some (.cells #[oV false] 4 (0, 0)))
      (fun cd pre X => cd = .exit 2 ∧ ∃ x, pre = [x] ∧ AdS w c X x.1 Ds ∧ X.heap[W.heap.size]? = some (.cells #[oV true] 4 (0, 0)))
      (fun s A B row hs hg hr => ⟨hs.1, AdS.grownO hs.2.1 hg (fun r e => (hr r e).1) (by omega) (fun D hD => by have := HML.out D hD; omega), row_grownO hs.2.2 hg (fun r e => (hr r e).1) hz2⟩)
      (fun cd s A B row hs hg hr => ⟨hs.1, by obtain ⟨x, h1, h2, h3⟩ := hs.2; exact ⟨x, h1, AdS.grownO h2 hg (fun r e => (hr r e).1) (by omega) (fun D hD => by have := HML.out D hD; omega), row_grownO h3 hg (fun r e => (hr r e).1) hz2⟩⟩)
      ⟨rfl, HA2.out, H82.out⟩
      (fun x => { tmps := #[calV c, iV d, iV n, .pointer (some ⟨w.heap.size, 0, none⟩), .pointer (some ⟨w.heap.size + 1, 0, none⟩), undef, iV 0, iV 0, .pointer (some ⟨W.heap.size, 0, none⟩), iV x.1, .agg #[iV c.zone, .slice c.wA c.week.length c.wc, .slice c.hA c.hol.length c.hc], .bool true, .bool false, .bool false, iV d, .bool true, .bool false, .bool false, .bool false, iV n, u20, u21, u22, iV n, u24, u25, iV n, iV k, .bool true, .agg #[iV c.zone, .slice c.wA c.week.length c.wc, .slice c.hA c.hol.length c.hc], iV day, iV (day + 1), .func (.func 128) #[] #[.pointer (some ⟨B1, 0, none⟩), .pointer (some ⟨B2, 0, none⟩), .pointer (some ⟨B3, 0, none⟩)], iV x.1, u34, u35, u36, u37, u38], defers := [] }) ?assign ?body ?done ?stop)
    case assign =>
      intro l x W K hK
      gi_wp2
      exact hK
    case body =>
      rintro l pre x X ⟨rfl, hA, h8⟩ _
      have HAX := Lib.hid hA
      have H8X := Lib.hid h8
      have hc4 : X.cell? ⟨w.heap.size + 1, 0, none⟩ = some (iV day) := cell_of_row _ _ 0 _ _ _ hA.day
      have hf4 := frozen_row hA.day 0
      have h8y : (X.setCell ⟨w.heap.size + 1, 0, none⟩ (iV x.1)).heap[W.heap.size]? = some (.cells #[oV false] 4 (0, 0)) := row_other9 h8 (by omega) _ _
      have hc5 : (X.setCell ⟨w.heap.size + 1, 0, none⟩ (iV x.1)).cell? ⟨W.heap.size, 0, none⟩ = some (oV false) := cell_of_row _ _ 0 _ _ _ h8y
      have hf5 := frozen_row h8y 0
      have hne : W.heap.size ≠ w.heap.size + 1 := by omega
      have hne' : w.heap.size + 1 ≠ W.heap.size := by omega
      have H8Y := Lib.hid h8y
      clear hA h8 h8y
      gi_wp2
      refine ⟨(KeepsOthers.setCell _ _ _).trans (KeepsOthers.setCell _ _ _), rfl, x, rfl, ?_, row_set9 H8Y.out 0 _⟩
      exact AdS.setO (HAX.out.set x.1) (by omega) (by omega) (fun D hD => by have := HML.out D hD; omega) (oV true)
    case done =>
      rintro E xs X hD hS ⟨rfl, hA, h8⟩ hK
      have HAX := Lib.hid hA
      have kf : X.cell? ⟨W.heap.size, 0, none⟩ = some (oV false) := cell_of_row _ _ 0 _ _ _ h8
      have HN : Hid (addN c n d = (0, 20)) := by
        show _ = _
        rw [HR.out, show n - k = (n - k - 1) + 1 by have := HLT.out; omega]
        exact addN_none (HWN.out.2 hS.symm)
      have HM : Hid (AdS w c X day (E :: Ds)) := HAX.out.mark hK (by omega) (fun F hF => by have := HML.out F hF; omega)
      clear hS hK hA h8 HAX
      go_wp2
      refine leaves_marks (E :: Ds) _ HM.out.marks HM.out.bel (fun W' hb' => ⟨by simp [results, Tryz.results56]; rfl, ?_, hb'⟩)
      rw [HN.out]
    case stop =>
      rintro E cd pre X hD hS ⟨rfl, ⟨x, rfl, hA, h8⟩⟩ hK
      have kf : X.cell? ⟨W.heap.size, 0, none⟩ = some (oV true) := cell_of_row _ _ 0 _ _ _ h8
      have HNX : Hid (nextW c 60 (day + 1) = some x.1) := by
        obtain ⟨y, p', t, he, ht⟩ := hS
        exact HWN.out.1 x.1 t (by simpa [valsD] using ht)
      have HM : Hid (AdS w c X x.1 (E :: Ds)) := hA.mark hK (by omega) (fun F hF => by have := HML.out F hF; omega)
      clear hS hK hA h8
      gi_wp2
      go_wp2
      have hx := nextW_some HNX.out
      refine ⟨⟨k + 1, x.1, E :: Ds, _, _, _, _, _, _, _, _, _, _, _, _, _, _, _, _, _, _, by have := HLT.out; omega, HM.out, ?_, by omega, by push_cast; omega, rfl⟩, ?_⟩
      · rw [HR.out, show n - k = (n - (k + 1)) + 1 by have := HLT.out; omega]
        exact addN_some HNX.out
      · have := HLT.out
        simp [intOf]
        omega
end Go.Proofs.YtjpabeoflhkfkaaGreatDoor
namespace Go.Proofs.YtjpabeoflhkfkaaGreatDoor
open Go.RowKit

/-- A network behind a pointer. -/
structure NetP (w : World) (N : Nat) (n : Net) : Prop where
  box : ∀ i v, (netCells n)[i]? = some v → w.cell? ⟨N, i, none⟩ = some v
  net : NetIn w n
theorem NetP.lt {w : World} {N : Nat} {n : Net} (h : NetP w N n) : N < w.heap.size := World.block_lt_of_cell? w _ (h.box 0 _ rfl)
theorem NetP.below {w w' : World} {N : Nat} {n : Net} (h : NetP w N n) (hb : Below w.heap.size w w') : NetP w' N n :=
  ⟨fun i v hv => (hb.cell (p := ⟨N, i, none⟩) h.lt).trans (h.box i v hv), h.net.below hb⟩
theorem NetP.drewN {w : World} {N : Nat} {n : Net} (h : NetP w N n) (k : Nat) : NetP (w.drewN k) N n := h.below (below_drewN (Below.refl _ _) k)
/-- The cells of the i-th element, addresses as the walk reckons them. -/
theorem elem_at {α : Type} {f : α → List Value} {k : Nat} (hk : ∀ x, (f x).length = k) {w : World} {A : Option Addr} {l : List α} (h : Rd w A (l.flatMap f)) {i : Nat} {x : α} (hi : l[i]? = some x) (hk0 : 0 < k) :
    i < l.length ∧ ∃ b off, A = some ⟨b, off, none⟩ ∧ b < w.heap.size ∧ (∀ v, (f x)[0]? = some v → w.cell? ⟨b, off + i * k, none⟩ = some v) ∧ ∀ j v, (f x)[j]? = some v → w.cell? ⟨b, off + i * k + j, none⟩ = some v := by
  obtain ⟨hlt, rfl⟩ := List.getElem?_eq_some_iff.1 hi
  obtain ⟨b, off, hA, hb, hc⟩ := h.elem hk hlt hk0
  exact ⟨hlt, b, off, hA, hb, fun v hv => by have := hc 0 v hv; simpa using this, fun j v hv => by rw [Nat.add_assoc]; exact hc j v hv⟩
set_option maxHeartbeats 2000000 in
set_option maxRecDepth 100000 in
theorem calof_any (N : Nat) (n : Net) (o ci : Nat) (of : Off) (c : Cal) (w : World) (hN : NetP w N n) (h1 : n.offs[o]? = some of) (h2 : of.cal = (ci : Int)) (h3 : n.cals[ci]? = some c) :
    Calls Tryz.prog 51 #[.pointer (some ⟨N, 0, none⟩), iV o] w fun e w' => e = .returned (calV c) ∧ Below w.heap.size w w' := by
  obtain ⟨ho, ob, oo, hoA, hob, -, hoc⟩ := elem_at encOff_len hN.net.offs h1 (by omega)
  obtain ⟨hc, cb, co, hcA, hcb, hc0, hcc⟩ := elem_at encCal_len hN.net.cals h3 (by omega)
  have hZ := heap_alloc_new w (.cells #[iV 0, .slice none 0 0, .slice none 0 0] 58)
  have hb := ba w (.cells #[iV 0, .slice none 0 0, .slice none 0 0] 58)
  have HB := Lib.hid hb
  have n0 : (w.alloc (.cells #[iV 0, .slice none 0 0, .slice none 0 0] 58)).cell? ⟨N, 0, none⟩ = some (.slice n.calA n.cals.length n.calC) := (hN.below hb).box 0 _ rfl
  have n3 : (w.alloc (.cells #[iV 0, .slice none 0 0, .slice none 0 0] 58)).cell? ⟨N, 3, none⟩ = some (.slice n.offA n.offs.length n.offC) := (hN.below hb).box 3 _ rfl
  have o2 : (w.alloc (.cells #[iV 0, .slice none 0 0, .slice none 0 0] 58)).cell? ⟨ob, oo + o * 7 + 2, none⟩ = some (iV of.cal) := (hb.cell (p := ⟨ob, _, none⟩) hob).trans (hoc 2 _ rfl)
  have c0 : (w.alloc (.cells #[iV 0, .slice none 0 0, .slice none 0 0] 58)).cell? ⟨cb, co + ci * 3, none⟩ = some (iV c.zone) := (hb.cell (p := ⟨cb, _, none⟩) hcb).trans (hc0 _ rfl)
  have c1 : (w.alloc (.cells #[iV 0, .slice none 0 0, .slice none 0 0] 58)).cell? ⟨cb, co + ci * 3 + 1, none⟩ = some (.slice c.wA c.week.length c.wc) := (hb.cell (p := ⟨cb, _, none⟩) hcb).trans (hcc 1 _ rfl)
  have c2 : (w.alloc (.cells #[iV 0, .slice none 0 0, .slice none 0 0] 58)).cell? ⟨cb, co + ci * 3 + 2, none⟩ = some (.slice c.hA c.hol.length c.hc) := (hb.cell (p := ⟨cb, _, none⟩) hcb).trans (hcc 2 _ rfl)
  have z0 : (w.alloc (.cells #[iV 0, .slice none 0 0, .slice none 0 0] 58)).cell? ⟨w.heap.size, 0, none⟩ = some (iV 0) := cell_of_row _ _ 0 _ _ _ hZ
  have z1 : (w.alloc (.cells #[iV 0, .slice none 0 0, .slice none 0 0] 58)).cell? ⟨w.heap.size, 1, none⟩ = some (.slice none 0 0) := cell_of_row _ _ 1 _ _ _ hZ
  have z2 : (w.alloc (.cells #[iV 0, .slice none 0 0, .slice none 0 0] 58)).cell? ⟨w.heap.size, 2, none⟩ = some (.slice none 0 0) := cell_of_row _ _ 2 _ _ _ hZ
  have y0 : (w.alloc (.cells #[iV 0, .slice none 0 0, .slice none 0 0] 58)).frozen? ⟨w.heap.size, 0, none⟩ = false := frozen_row hZ 0
  have y1 : (w.alloc (.cells #[iV 0, .slice none 0 0, .slice none 0 0] 58)).frozen? ⟨w.heap.size, 1, none⟩ = false := frozen_row hZ 1
  have y2 : (w.alloc (.cells #[iV 0, .slice none 0 0, .slice none 0 0] 58)).frozen? ⟨w.heap.size, 2, none⟩ = false := frozen_row hZ 2
  rw [h2] at o2
  rw [hoA] at n3
  rw [hcA] at n0
  have j1 : (0 : Int) ≤ (o : Int) := by omega
  have j2 : (o : Int) < (n.offs.length : Int) := by omega
  have j3 : (0 : Int) ≤ (ci : Int) := by omega
  have j4 : (ci : Int) < (n.cals.length : Int) := by omega
  clear hN hoc hc0 hcc hZ hb hob hcb h1 h2 h3 hoA hcA
  go_enter Tryz.func51, Tryz.ntmps51
  go_upto_region 1 with fail
  change Code.wp _ _ _ _ (w.alloc (.cells #[iV 0, .slice none 0 0, .slice none 0 0] 58))
  generalize (w.alloc (.cells #[iV 0, .slice none 0 0, .slice none 0 0] 58)) = W0 at *
  go_still_tail 14, (by kernel_rfl)
  go_wp2
  refine bodyPost_ret (v := calV c) (by simp [results, Tryz.results51, go_sem, z0, z1, z2]) rfl ⟨rfl, ?_⟩
  exact b_drew (((HB.out.setCell (p := ⟨w.heap.size, 0, none⟩) (Nat.le_refl _) _).setCell (p := ⟨w.heap.size, 1, none⟩) (Nat.le_refl _) _).setCell (p := ⟨w.heap.size, 2, none⟩) (Nat.le_refl _) _)
theorem mul_small {p m : Int} (h1 : 1 ≤ p) (h2 : p ≤ 4) (h3 : 1 ≤ m) (h4 : m ≤ 240) : 0 ≤ p * m ∧ p * m ≤ 960 := by
  rcases (by omega : p = 1 ∨ p = 2 ∨ p = 3 ∨ p = 4) with rfl | rfl | rfl | rfl <;> omega
def readyR (of : Off) (t : Int) : Int := t + of.passes * of.minutes
set_option maxHeartbeats 2000000 in
set_option maxRecDepth 100000 in
theorem ready_any (N : Nat) (n : Net) (o : Nat) (of : Off) (t : Int) (w : World) (hN : NetP w N n) (h1 : n.offs[o]? = some of) (p1 : 1 ≤ of.passes) (p2 : of.passes ≤ 4) (m1 : 1 ≤ of.minutes) (m2 : of.minutes ≤ 240) (t1 : -100000000 ≤ t) (t2 : t ≤ 100000000) :
    Calls Tryz.prog 91 #[.pointer (some ⟨N, 0, none⟩), iV o, iV t] w fun e w' => e = .returned (iV (readyR of t)) ∧ Below w.heap.size w w' := by
  obtain ⟨ho, ob, oo, hoA, hob, -, hoc⟩ := elem_at encOff_len hN.net.offs h1 (by omega)
  have n3 : w.cell? ⟨N, 3, none⟩ = some (.slice n.offA n.offs.length n.offC) := hN.box 3 _ rfl
  have o4 : w.cell? ⟨ob, oo + o * 7 + 4, none⟩ = some (iV of.passes) := hoc 4 _ rfl
  have o5 : w.cell? ⟨ob, oo + o * 7 + 5, none⟩ = some (iV of.minutes) := hoc 5 _ rfl
  rw [hoA] at n3
  have HR : Hid (readyR of t = t + of.passes * of.minutes) := rfl
  obtain ⟨q1, q2⟩ := mul_small p1 p2 m1 m2
  generalize of.passes = p at *
  generalize of.minutes = m at *
  have r1 : IntKind.i64.wrap (p * m) = p * m := IntWalk.i64_in _ (by omega)
  have r2 : IntKind.i64.wrap (t + p * m) = t + p * m := IntWalk.i64_in _ (by omega)
  have j1 : (0 : Int) ≤ (o : Int) := by omega
  have j2 : (o : Int) < (n.offs.length : Int) := by omega
  clear hN hoc h1 hoA hob
  go_enter Tryz.func91, Tryz.ntmps91
  go_upto_region 1 with fail
  go_quiet (fail)
  clear r1 r2
  go_wp2
  go_ret
  exact ⟨ret_int HR.out.symm, below_drewN (Below.refl w.heap.size w) _⟩
def tOk (t : Int) : Bool := decide (0 ≤ t) && decide (t ≤ 2000000)
set_option maxHeartbeats 400000 in
theorem intime_any (t : Int) (w : World) : Calls Tryz.prog 44 #[iV t] w fun e w' => e = .returned (.bool (tOk t)) ∧ w = w' := by
  by_cases h : 0 ≤ t
  · have HR : Hid (tOk t = decide (t ≤ 2000000)) := by show _ = _; unfold tOk; simp [h]
    go_enter Tryz.func44, Tryz.ntmps44
    go_wp2
    go_ret
    exact ⟨ret_bool HR.out.symm, rfl⟩
  · have HR : Hid (tOk t = false) := by show _ = _; unfold tOk; simp [h]
    go_enter Tryz.func44, Tryz.ntmps44
    go_wp2
    go_ret
    exact ⟨ret_bool HR.out.symm, rfl⟩
def departR (c : Cal) (L : Lin) (t : Int) : Int × Int := if tOk t = true then firstR c L.at_ t else (0, 1)
set_option maxHeartbeats 4000000 in
set_option maxRecDepth 100000 in
theorem depart_any (N : Nat) (n : Net) (l o ci : Nat) (L : Lin) (of : Off) (c : Cal) (t : Int) (w : World) (hN : NetP w N n) (h0 : n.lins[l]? = some L) (hf : L.frm = (o : Int)) (h1 : n.offs[o]? = some of) (h2 : of.cal = (ci : Int)) (h3 : n.cals[ci]? = some c) (hv : calB c = true) (a1 : 0 ≤ L.at_) (a2 : L.at_ < 1440) :
    Calls Tryz.prog 90 #[.pointer (some ⟨N, 0, none⟩), iV l, iV t] w fun e w' => e = .returned (.tuple #[iV (departR c L t).1, iV (departR c L t).2]) ∧ Below w.heap.size w w' := by
  obtain ⟨hl, lb, lo, hlA, hlb, -, hlc⟩ := elem_at encLin_len hN.net.lins h0 (by omega)
  have n4 : w.cell? ⟨N, 4, none⟩ = some (.slice n.linA n.lins.length n.linC) := hN.box 4 _ rfl
  have l1 : w.cell? ⟨lb, lo + l * 6 + 1, none⟩ = some (iV L.frm) := hlc 1 _ rfl
  have l3 : w.cell? ⟨lb, lo + l * 6 + 3, none⟩ = some (iV L.at_) := hlc 3 _ rfl
  rw [hlA] at n4
  rw [hf] at l1
  have HC := Lib.hid (hN.net.cal c (List.mem_of_getElem? h3))
  have HN := Lib.hid hN
  have HH := Lib.hid (And.intro h1 (And.intro h2 h3))
  have HV := Lib.hid hv
  have HSw : Hid (∀ w', Below w.heap.size w w' → w'.cell? ⟨N, 4, none⟩ = some (.slice (some ⟨lb, lo, none⟩) n.lins.length n.linC) ∧ w'.cell? ⟨lb, lo + l * 6 + 1, none⟩ = some (iV (o : Int)) ∧ w'.cell? ⟨lb, lo + l * 6 + 3, none⟩ = some (iV L.at_)) := fun w' hb =>
    ⟨(hb.cell (p := ⟨N, 4, none⟩) hN.lt).trans n4, (hb.cell (p := ⟨lb, _, none⟩) hlb).trans l1, (hb.cell (p := ⟨lb, _, none⟩) hlb).trans l3⟩
  have j1 : (0 : Int) ≤ (l : Int) := by omega
  have j2 : (l : Int) < (n.lins.length : Int) := by omega
  clear hN hlc h0 hlA hlb h1 h2 h3 hv hf
  go_enter Tryz.func90, Tryz.ntmps90
  go_wp2_with fail
  refine (intime_any t _).mono ?_
  rintro e w1 ⟨rfl, rfl⟩
  cases ht : tOk t with
  | false =>
    have HR : Hid (departR c L t = (0, 1)) := by show _ = _; unfold departR; rw [ht]; rfl
    clear ht
    go_wp2_with fail
    go_ret2
    rw [HR.out]
    exact ⟨rfl, Below.refl w.heap.size w⟩
  | true =>
    have HR : Hid (departR c L t = firstR c L.at_ t) := by show _ = _; unfold departR; rw [ht]; rfl
    have ht' := ht
    unfold tOk at ht'
    simp only [Bool.and_eq_true, decide_eq_true_eq] at ht'
    obtain ⟨t1, t2⟩ := ht'
    clear ht
    go_wp2_with fail
    go_region_held3 (fun w' => w'.cell? ⟨N, 4, none⟩ = some (.slice (some ⟨lb, lo, none⟩) n.lins.length n.linC) ∧ w'.cell? ⟨lb, lo + l * 6 + 1, none⟩ = some (iV (o : Int)) ∧ w'.cell? ⟨lb, lo + l * 6 + 3, none⟩ = some (iV L.at_)) (first | (with_reducible exact HSw.out _ (b_drew (Below.refl _ _))) | (with_reducible exact HSw.out _ HB1.out) | (with_reducible exact HSw.out _ HB2.out)) (first
      | (go_at_call 51; refine (calof_any N n o ci of c _ (HN.out.drewN 1) HH.out.1 HH.out.2.1 HH.out.2.2).mono ?_; rintro e w1 ⟨rfl, hb⟩; have HB1 := Lib.hid (bdr hb); clear hb)
      | (go_at_call 50; refine (first_any c L.at_ t _ (HC.out.below HB1.out) HV.out a1 a2 (by omega) (by omega)).mono ?_; rintro e w2 ⟨rfl, hb⟩; have HB2 := Lib.hid (bt HB1.out hb); clear hb)
      | fail)
    go_wp2_with fail
    go_ret2
    rw [HR.out]
    exact ⟨rfl, HB2.out⟩
def deliveryR (c : Cal) (of : Off) (K : Cls) (t : Int) : Int × Int := firstR c K.deliver (readyR of t)
set_option maxHeartbeats 4000000 in
set_option maxRecDepth 100000 in
theorem delivery_any (N : Nat) (n : Net) (k o ci : Nat) (K : Cls) (of : Off) (c : Cal) (t : Int) (w : World) (hN : NetP w N n) (h0 : n.clss[k]? = some K) (h1 : n.offs[o]? = some of) (h2 : of.cal = (ci : Int)) (h3 : n.cals[ci]? = some c) (hv : calB c = true) (a1 : 0 ≤ K.deliver) (a2 : K.deliver < 1440)
    (p1 : 1 ≤ of.passes) (p2 : of.passes ≤ 4) (m1 : 1 ≤ of.minutes) (m2 : of.minutes ≤ 240) (t1 : -90000000 ≤ t) (t2 : t ≤ 90000000) :
    Calls Tryz.prog 57 #[.pointer (some ⟨N, 0, none⟩), iV k, iV o, iV t] w fun e w' => e = .returned (.tuple #[iV (deliveryR c of K t).1, iV (deliveryR c of K t).2]) ∧ Below w.heap.size w w' := by
  obtain ⟨hl, lb, lo, hlA, hlb, -, hlc⟩ := elem_at encCls_len hN.net.clss h0 (by omega)
  have n4 : w.cell? ⟨N, 5, none⟩ = some (.slice n.clsA n.clss.length n.clsC) := hN.box 5 _ rfl
  have l3 : w.cell? ⟨lb, lo + k * 3 + 2, none⟩ = some (iV K.deliver) := hlc 2 _ rfl
  rw [hlA] at n4
  have HC := Lib.hid (hN.net.cal c (List.mem_of_getElem? h3))
  have HN := Lib.hid hN
  have HH := Lib.hid (And.intro h1 (And.intro h2 h3))
  have HV := Lib.hid hv
  have HSw : Hid (∀ w', Below w.heap.size w w' → w'.cell? ⟨N, 5, none⟩ = some (.slice (some ⟨lb, lo, none⟩) n.clss.length n.clsC) ∧ w'.cell? ⟨lb, lo + k * 3 + 2, none⟩ = some (iV K.deliver)) := fun w' hb =>
    ⟨(hb.cell (p := ⟨N, 5, none⟩) hN.lt).trans n4, (hb.cell (p := ⟨lb, _, none⟩) hlb).trans l3⟩
  have hrd := mul_small p1 p2 m1 m2
  have hr1 : -100000000 ≤ readyR of t ∧ readyR of t ≤ 100000000 := by unfold readyR; omega
  have HRR := Lib.hid hr1
  have HPM := Lib.hid (And.intro (And.intro p1 p2) (And.intro m1 m2))
  have j1 : (0 : Int) ≤ (k : Int) := by omega
  have j2 : (k : Int) < (n.clss.length : Int) := by omega
  clear hN hlc h0 hlA hlb h1 h2 h3 hv hrd hr1 p1 p2 m1 m2
  go_enter Tryz.func57, Tryz.ntmps57
  go_wp2_with fail
  go_region_held3 (fun w' => w'.cell? ⟨N, 5, none⟩ = some (.slice (some ⟨lb, lo, none⟩) n.clss.length n.clsC) ∧ w'.cell? ⟨lb, lo + k * 3 + 2, none⟩ = some (iV K.deliver)) (first | (with_reducible exact HSw.out _ (b_drew (Below.refl _ _))) | (with_reducible exact HSw.out _ HB1.out) | (with_reducible exact HSw.out _ HB2.out) | (with_reducible exact HSw.out _ HB3.out)) (first
      | (go_at_call 51; refine (calof_any N n o ci of c _ (HN.out.drewN 1) HH.out.1 HH.out.2.1 HH.out.2.2).mono ?_; rintro e w1 ⟨rfl, hb⟩; have HB1 := Lib.hid (bdr hb); clear hb)
      | (go_at_call 91; refine (ready_any N n o of t _ (HN.out.below HB1.out) HH.out.1 HPM.out.1.1 HPM.out.1.2 HPM.out.2.1 HPM.out.2.2 (by omega) (by omega)).mono ?_; rintro e w2 ⟨rfl, hb⟩; have HB2 := Lib.hid (bt HB1.out hb); clear hb)
      | (go_at_call 50; refine (first_any c K.deliver (readyR of t) _ (HC.out.below HB2.out) HV.out a1 a2 HRR.out.1 HRR.out.2).mono ?_; rintro e w3 ⟨rfl, hb⟩; have HB3 := Lib.hid (bt HB2.out hb); clear hb)
      | fail)
  go_wp2_with fail
  go_ret2
  exact ⟨rfl, HB3.out⟩
set_option maxHeartbeats 400000 in
theorem inside_any (i m : Int) (w : World) : Calls Tryz.prog 43 #[iV i, iV m] w fun e w' => e = .returned (.bool (decide (0 ≤ i) && decide (i < m))) ∧ w = w' := by
  by_cases h : 0 ≤ i
  · have HR : Hid ((decide (0 ≤ i) && decide (i < m)) = decide (i < m)) := by show _ = _; simp [h]
    go_enter Tryz.func43, Tryz.ntmps43
    go_wp2
    go_ret
    exact ⟨ret_bool HR.out.symm, rfl⟩
  · have HR : Hid ((decide (0 ≤ i) && decide (i < m)) = false) := by show _ = _; simp [h]
    go_enter Tryz.func43, Tryz.ntmps43
    go_wp2
    go_ret
    exact ⟨ret_bool HR.out.symm, rfl⟩
end Go.Proofs.YtjpabeoflhkfkaaGreatDoor
