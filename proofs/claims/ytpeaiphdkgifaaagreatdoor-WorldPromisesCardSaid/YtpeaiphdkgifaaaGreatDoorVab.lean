/- The walks over the calendar: remainders, whether it is well-formed, -/
import Derived.Test.YtpeaiphdkgifaaaGreatDoorVaa
import Derived.IntWalk
import Derived.Deep.DeepMust
import Derived.Deep.DeepCutAuto
import Derived.Laws.CopyOwn
import Derived.BigRegion
import Derived.Deep.RegionLaw
import Derived.RangeFuncNested
import Derived.RangeFuncBound
import Derived.RangeFuncCalls
import Derived.RangeFuncLeaves
import Derived.Shelf.Abstract
import Derived.Shelf.RegionOpen
import Derived.OwnWalkIn
import Derived.TacticsInMore
import Derived.LoopNIn
import Derived.LoopIn
namespace Go.Proofs.YtpeaiphdkgifaaaGreatDoor
open Go.RowKit
set_option maxHeartbeats 20000000
set_option maxRecDepth 100000
theorem sq (a b : Int) (w : World) (ha : I64 a) (hb : 0 < b) (hb2 : b <= 100000) :
  Calls Tryz.prog 139 #[iV a, iV b] w fun e w' => e = .returned (iV (a % b)) /\ w = w' := by
 obtain ⟨ha1, ha2⟩ := ha
 have hb0 : b ≠ 0 := by omega
 have ht1 := Int.tmod_lt_of_pos a hb
 have ht2 : -b < a.tmod b := by
  have := Int.tmod_lt_of_pos (-a) hb
  rw [Int.neg_tmod] at this
  omega
 have hE : Hid (a % b = if a.tmod b < 0 then a.tmod b + b else a.tmod b) := by
  show _ = _
  have h1 := Int.emod_def a b
  rcases (by omega : a < 0 ∨ 0 <= a) with h | h
  ·by_cases hz : a.tmod b < 0
   ·rw [if_pos hz]
    have hd := Int.mul_tdiv_add_tmod a b
    have key : a % b = ((a.tmod b + b) + b * (a.tdiv b - 1)) % b := by
     congr 1
     rw [Int.mul_sub, Int.mul_one]
     omega
    rw [key, Int.add_mul_emod_self_left]
    exact Int.emod_eq_of_lt (by omega) (by omega)
   ·rw [if_neg hz]
    have hd := Int.mul_tdiv_add_tmod a b
    have : a = a.tmod b + b * a.tdiv b := by omega
    rw [show a % b = (a.tmod b + b * a.tdiv b) % b by rw [<- this], Int.add_mul_emod_self_left]
    exact Int.emod_eq_of_lt (by omega) ht1
  ·have hz : ¬ a.tmod b < 0 := by have := Int.tmod_nonneg b h; omega
   rw [if_neg hz]
   exact (Int.tmod_eq_emod_of_nonneg h).symm
 go_enter Tryz.func139, Tryz.ntmps139
 go_wp2
 ·go_ret
  exact ⟨iq (by rw [hE.out, if_pos (by assumption)]), rfl⟩
 ·go_ret
  exact ⟨iq (by rw [hE.out, if_neg (by omega)]), rfl⟩
theorem sj {l : List Int} (h : ∀ i (hi : i + 1 < l.length), l[i] < l[i + 1]) : upB l = true := by
 induction l with
 | nil => rfl
 | cons a l ih =>
  cases l with
  | nil => rfl
  | cons b l =>
   simp only [upB, Bool.and_eq_true, decide_eq_true_eq]
   exact ⟨h 0 (by simp), ih fun i hi => h (i + 1) (by simpa using hi)⟩
theorem uU {l : List Int} (h : upB l = true) (i : Nat) (hi : i + 1 < l.length) : l[i] < l[i + 1] :=
 List.pairwise_iff_getElem.1 (il h) i (i + 1) (by omega) hi (by omega)
theorem oY (w : World) (c : Cal) (t : TypeId) : (w.alloc (.cells (dZ c).toArray t)).cell? (aV w.heap.size 0) = some (iV c.zone) /\ (w.alloc (.cells (dZ c).toArray t)).cell? (aV w.heap.size 1) = some (.slice c.wA c.week.length c.wc) /\ (w.alloc (.cells (dZ c).toArray t)).cell? (aV w.heap.size 2) = some (.slice c.hA c.hol.length c.hc) :=
 have h := aC w (.cells (dZ c).toArray t)
 ⟨aA 0 h, aA 1 h, aA 2 h⟩
theorem ba (W : World) (o : Obj) : Below W.heap.size W (W.alloc o) := (aJ _ W).alloc (aH _) o
theorem dU (c : Cal) (w : World) (hc : cP w c) :
  Calls Tryz.prog 111 #[eI c] w fun e w' => e = .returned (.bool (du c)) /\ Below w.heap.size w w' := by
 obtain ⟨⟨z1, z2⟩, -, hA, -, hl1, hl2⟩ := hc
 have HB := aB (ba w (.cells (dZ c).toArray 110))
 have HA := aB (hA.below HB.out); clear hA
 unfold maxLen at hl1 hl2
 have hbox := oY w c 110
 unfold dZ at HA HB hbox
 obtain ⟨k0, k1, k2⟩ := hbox
 have HW : w.heap.size < (w.alloc (.cells #[iV c.zone, .slice c.wA c.week.length c.wc, .slice c.hA c.hol.length c.hc] 110)).heap.size := by simp
 by_cases hall : (-720 <= c.zone /\ c.zone <= 840 /\ c.week.length = 7 /\ c.hol.length <= 40)
 ·obtain ⟨g1, g2, g3, g4⟩ := hall
  have i1 : ¬ c.zone < -720 := by omega
  have i2 : ¬ 840 < c.zone := by omega
  have i3 : ((c.week.length : Int) != 7) = false := by simp; omega
  have i3' : ((c.week.length : Int) == 7) = true := by simp; omega
  have i4 : ¬ (40 : Int) < (c.hol.length : Int) := by omega
  have HR : Hid (du c = upB c.hol) := by
   show _ = _
   unfold du
   simp [g1, g2, g3, g4]
  clear g3
  go_enter Tryz.func111, Tryz.ntmps111
  go_upto_region 1 with fail
  change Code.wp _ _ _ _ (w.alloc (.cells #[iV c.zone, .slice c.wA c.week.length c.wc, .slice c.hA c.hol.length c.hc] 110))
  generalize (w.alloc (.cells #[iV c.zone, .slice c.wA c.week.length c.wc, .slice c.hA c.hol.length c.hc] 110)) = W0 at *
  go_wp2
  go_loopw [3] (fun i wr => ∃ k q : Nat, 1 <= k /\ k <= c.hol.length + 1 /\ i = iV k /\ wr = W0.drewN q /\ Hid (∀ (m : Nat) (h : m + 1 < c.hol.length), m + 1 < k -> c.hol[m] < c.hol[m + 1])) (fun i _ => c.hol.length + 1 - (intOf i).toNat)
  case atStart => exact ⟨1, 0, aH _, by omega, rfl, rfl, fun m h1 h2 => by omega⟩
  case round =>
   obtain ⟨k, q, hk1, hk2, rfl, rfl, HS⟩ := hrel
   by_cases hlt : k < c.hol.length
   ·obtain ⟨b, off, hA, hb, hcc⟩ := HA.out.get (i := k) (by simpa using hlt)
    have e1 : W0.cell? (aV b (off + k)) = some (iV c.hol[k]) := hcc k _ (by simp [hlt])
    have e2 : W0.cell? (aV b (off + (k - 1))) = some (iV (c.hol[k - 1]'(by omega))) := hcc (k - 1) _ (by simp [show k - 1 < c.hol.length by omega])
    have HPK : Hid (c.hol[k - 1]'(by omega) < c.hol[k] -> ∀ (m : Nat) (h : m + 1 < c.hol.length), m + 1 < k + 1 -> c.hol[m] < c.hol[m + 1]) := fun hx m h1 h2 => by
     by_cases hm : m + 1 < k
     ·exact HS.out m h1 hm
     ·obtain rfl : k = m + 1 := by omega
      exact hx
    have HNK : Hid (c.hol[k] <= c.hol[k - 1]'(by omega) -> upB c.hol = false) := fun hx => by
     rw [Bool.eq_false_iff]
     intro h
     have := uU h (k - 1) (by omega)
     simp only [show k - 1 + 1 = k by omega] at this
     omega
    rw [hA] at k2
    generalize c.hol[k] = x at *
    generalize c.hol[k - 1]'(by omega) = y at *
    clear hcc
    have j1 : (0 : Int) <= (k : Int) := by omega
    have j2 : (k : Int) < (c.hol.length : Int) := by omega
    have j3 : (1 : Int) <= (k : Int) := by omega
    have j4 : (k : Int) - 1 < (c.hol.length : Int) := by omega
    have j5 : (0 : Int) <= (k : Int) - 1 := by omega
    have j6 : IntKind.i64.wrap ((k : Int) - 1) = (k : Int) - 1 := aO _ (by omega)
    have j7 : ((k : Int) - 1).toNat = k - 1 := by omega
    go_wp2
    go_quiet (fail)
    clear j6 j7
    go_wp2
    ·go_ret
     exact ⟨ah (by rw [HR.out, HNK.out (by assumption)]), ai (ai HB.out q) _⟩
    ·go_roundw
     case rel => exact ⟨k + 1, _, by omega, by omega, by go_num, rfl, HPK.out (by omega)⟩
     case measure => simp [intOf]; omega
   ·have j2 : ¬ (k : Int) < (c.hol.length : Int) := by omega
    go_wp2
    go_ret
    exact ⟨ah (by rw [HR.out, sj (fun m h => HS.out m h (by omega))]), ai HB.out _⟩
 ·have HR : Hid (du c = false) := by
   show _ = _
   unfold du
   rw [Bool.eq_false_iff]
   intro h
   simp [and_assoc] at h
   exact hall ⟨h.1, h.2.1, h.2.2.1, h.2.2.2.1⟩
  by_cases i1 : c.zone < -720
  ·go_enter Tryz.func111, Tryz.ntmps111
   go_wp2
   go_ret
   exact ⟨ah HR.out.symm, HB.out⟩
  by_cases i2 : 840 < c.zone
  ·go_enter Tryz.func111, Tryz.ntmps111
   go_wp2
   go_ret
   exact ⟨ah HR.out.symm, HB.out⟩
  by_cases i3 : c.week.length = 7
  ·have i3' : ((c.week.length : Int) == 7) = true := by simp; omega
   have i3'' : ((c.week.length : Int) != 7) = false := by simp; omega
   have i4 : (40 : Int) < (c.hol.length : Int) := by omega
   clear i3
   go_enter Tryz.func111, Tryz.ntmps111
   go_wp2
   go_ret
   exact ⟨ah HR.out.symm, HB.out⟩
  ·have i3' : ((c.week.length : Int) == 7) = false := by simp; omega
   have i3'' : ((c.week.length : Int) != 7) = true := by simp; omega
   clear i3
   go_enter Tryz.func111, Tryz.ntmps111
   go_wp2
   go_ret
   exact ⟨ah HR.out.symm, HB.out⟩
structure Cut (p : Nat -> Bool) (n k : Nat) : Prop where
 le : k <= n
 no : ∀ i, i < k -> p i = false
 yes : ∀ i, k <= i -> i < n -> p i = true
def Srch (p : Nat -> Bool) (n : Nat) (w : World) (e : Ending) (w' : World) : Prop := ∃ k : Nat, e = .returned (iV k) /\ Cut p n k /\ Below w.heap.size w w'
theorem q8 (f : FuncId) (cb : Array Value) (n : Nat) (p : Nat -> Bool) (w : World) (hn : n <= 1000000) (_hcb : cb.size = 2)
  (hf : ∀ (i : Nat) (W : World), i < n -> Below w.heap.size w W -> Calls Tryz.prog f (#[iV i] ++ cb) W fun e W' => e = .returned (.bool (p i)) /\ Below W.heap.size W W')
  (hmono : ∀ a b, a <= b -> b < n -> p a = true -> p b = true) (eg : ∀ args w, (callFunc f args).run Tryz.prog w = .ok (.enter f args) w) :
  Calls Tryz.prog 194 #[iV n, .func (.func f) #[] cb] w (Srch p n w) := by
 have HF := aB hf; clear hf
 have HM := aB hmono; clear hmono
 go_enter Tryz.func194, Tryz.ntmps194
 go_wp2
 go_loopw [5, 6] (fun i j wr => ∃ a b : Nat, a <= b /\ b <= n /\ i = iV a /\ j = iV b /\ Hid (∀ x, x < a -> p x = false) /\ Hid (∀ x, b <= x -> x < n -> p x = true) /\ Hid (Below w.heap.size w wr)) (fun i j _ => (intOf j).toNat - (intOf i).toNat)
 case atStart => exact ⟨0, n, Nat.zero_le _, aH _, rfl, rfl, fun x h => by omega, fun x h1 h2 => by omega, aJ _ _⟩
 case round =>
  obtain ⟨a, b, hab, hbn, rfl, rfl, H1, H2, HB⟩ := hrel
  by_cases hlt : a < b
  ·have g1 : (a : Int) < (b : Int) := by omega
   obtain ⟨h, hh⟩ : ∃ h : Nat, h = (a + b) / 2 := ⟨_, rfl⟩
   have hh1 : a <= h := by omega
   have hh2 : h < b := by omega
   have hd : ((a : Int) + (b : Int)) / 2 = (h : Int) := by omega
   clear hh
   go_wp2_with fail
   refine (HF.out h wr (by omega) HB.out).mono ?_
   rintro e w1 ⟨rfl, hb⟩
   have HB1 := aB (bt HB.out hb); clear hb
   cases hp : p h with
   | true =>
    have HP := aB hp; clear hp
    go_wp2
    go_roundw
    case rel => exact ⟨a, h, hh1, by omega, rfl, rfl, H1, fun x h3 h4 => HM.out h x h3 h4 HP.out, HB1⟩
    case measure => simp [intOf]; omega
   | false =>
    have HP := aB hp; clear hp
    go_wp2
    go_roundw
    case rel =>
     refine ⟨h + 1, b, by omega, hbn, by go_num, rfl, fun x h3 => ?_, H2, HB1⟩
     by_cases hx : x < a
     ·exact H1.out x hx
     ·cases hq : p x with
      | false => rfl
      | true => have := HM.out x h (by omega) (by omega) hq; rw [HP.out] at this; cases this
    case measure => simp [intOf]; omega
  ·have g1 : ¬ (a : Int) < (b : Int) := by omega
   go_wp2
   go_ret
   exact ⟨a, rfl, ⟨by omega, H1.out, fun i h3 h4 => H2.out i (by omega) h4⟩, HB.out⟩
structure Wk (w : World) (c : Cal) (P Q : Nat) : Prop where
 week : ∀ i (_ : i < 7), w.cell? (aV P i) = some (oV (c.week.getD i false))
 hol : w.cell? (aV Q 2) = some (.slice c.hA c.hol.length c.hc)
 rd : Rd w c.hA (c.hol.map iV)
 lens : c.hol.length <= 1000000 /\ ∀ n ∈ c.hol, I64 n
theorem Wk.ltP {w : World} {c : Cal} {P Q : Nat} (h : Wk w c P Q) : P < w.heap.size := aM w _ (h.week 0 (by omega))
theorem Wk.ltQ {w : World} {c : Cal} {P Q : Nat} (h : Wk w c P Q) : Q < w.heap.size := aM w _ h.hol
theorem Wk.below {w w' : World} {c : Cal} {P Q : Nat} (h : Wk w c P Q) (hb : Below w.heap.size w w') : Wk w' c P Q :=
 ⟨fun i hi => (World.cell?_of_block (a := (aV P i)) (hb.block _ h.ltP)).trans (h.week i hi), (World.cell?_of_block (a := (aV Q 2)) (hb.block _ h.ltQ)).trans h.hol, h.rd.below hb, h.lens⟩
theorem wi (c : Cal) (P Q D : Nat) (d : Int) (i : Nat) (w : World) (hw : Wk w c P Q) (hd : w.cell? (aV D 0) = some (iV d)) (hi : i < c.hol.length) :
  Calls Tryz.prog 195 #[iV i, .pointer (some (aV Q 0)), .pointer (some (aV D 0))] w fun e w' => e = .returned (.bool (decide (d <= c.hol.getD i 0))) /\ Below w.heap.size w w' := by
 obtain ⟨b, off, hA, hb, hcc⟩ := hw.rd.get (i := i) (by simpa using hi)
 have e1 : w.cell? (aV b (off + i)) = some (iV c.hol[i]) := hcc i _ (by simp [hi])
 have k2 := hw.hol
 have HG : Hid (c.hol.getD i 0 = c.hol[i]) := by show _ = _; simp [List.getD, hi]
 rw [hA] at k2
 have j1 : (0 : Int) <= (i : Int) := by omega
 have j2 : (i : Int) < (c.hol.length : Int) := by omega
 generalize c.hol[i] = x at *
 clear hcc hw hA
 go_enter Tryz.func195, Tryz.ntmps195
 go_wp2
 go_quiet (fail)
 go_wp2
 go_ret
 exact ⟨ah (by rw [HG.out]), ai (aJ _ _) _⟩
theorem mem_cut {hol : List Int} {d : Int} {k : Nat} (hs : upB hol = true) (hc : Cut (fun i => decide (d <= hol.getD i 0)) hol.length k) : (k = hol.length -> d ∉ hol) /\ ∀ (h : k < hol.length), (d ∈ hol ↔ hol[k] = d) := by
 have key : ∀ j (hj : j < hol.length), hol[j] = d -> k <= j := fun j hj e => by
  rcases Nat.lt_or_ge j k with h | h
  ·have := hc.no j h
   simp [List.getD, hj, e] at this
  ·exact h
 constructor
 ·intro hk hm
  obtain ⟨j, hj, e⟩ := List.mem_iff_getElem.1 hm
  have := key j hj e
  omega
 ·intro h
  constructor
  ·intro hm
   obtain ⟨j, hj, e⟩ := List.mem_iff_getElem.1 hm
   have h1 := key j hj e
   have h2 := hc.yes k (aH _) h
   simp [List.getD, h] at h2
   rcases Nat.eq_or_lt_of_le h1 with h3 | h3
   ·subst h3; exact e
   ·have := List.pairwise_iff_getElem.1 (il hs) k j h hj h3
    omega
  ·intro e
   exact e ▸ List.getElem_mem h
theorem vI {hol : List Int} (d : Int) (hs : upB hol = true) (a b : Nat) (hab : a <= b) (hb : b < hol.length) (h : decide (d <= hol.getD a 0) = true) : decide (d <= hol.getD b 0) = true := by
 have ha : a < hol.length := by omega
 simp [List.getD, ha] at h
 simp [List.getD, hb]
 rcases Nat.eq_or_lt_of_le hab with h3 | h3
 ·subst h3; exact h
 ·have := List.pairwise_iff_getElem.1 (il hs) a b ha hb h3
  omega
theorem kM (c : Cal) (P Q : Nat) (d : Int) (w : World) (hw : Wk w c P Q) (hup : upB c.hol = true) (hd : I64 d) :
  Calls Tryz.prog 193 #[iV d, .pointer (some (aV P 0)), .pointer (some (aV Q 0))] w fun e w' => e = .returned (.bool (cz c d)) /\ Below w.heap.size w w' := by
 have HW := aB hw
 have HD : Hid (I64 d) := hd
 clear hd
 have HB := aB (ba w (.cells #[iV d] 3))
 have HW1 := aB (hw.below HB.out)
 have hdc : (w.alloc (.cells #[iV d] 3)).cell? (aV w.heap.size 0) = some (iV d) := aA 0 (aC _ _)
 obtain ⟨m, hm⟩ : ∃ m : Nat, (m : Int) = d % 7 := ⟨(d % 7).toNat, by omega⟩
 have hm7 : m < 7 := by omega
 have hmn : (d % 7).toNat = m := by omega
 have j1 : (m : Int) < 7 := by omega
 have k0 := HW1.out.week m hm7
 have k2 := HW1.out.hol
 have HWB : Hid (cz c d = (c.week.getD m false && !decide (d ∈ c.hol))) := by show _ = _; unfold cz; rw [hmn]
 clear hw hmn
 go_enter Tryz.func193, Tryz.ntmps193
 go_upto_region 1 with fail
 change Code.wp _ _ _ _ (w.alloc (.cells #[iV d] 3))
 generalize (w.alloc (.cells #[iV d] 3)) = W0 at *
 go_wp2_with fail
 refine (sq d 7 _ HD.out (by omega) (by omega)).mono ?_
 rintro e w1 ⟨rfl, rfl⟩
 rw [<- hm]
 clear hm
 cases hwk : c.week.getD m false with
 | false =>
  rw [hwk] at k0
  have HR : Hid (cz c d = false) := by show _ = _; rw [HWB.out, hwk]; rfl
  clear hwk
  go_wp2_with fail
  go_ret
  exact ⟨ah HR.out.symm, HB.out⟩
 | true =>
  rw [hwk] at k0
  have HR : Hid (cz c d = !decide (d ∈ c.hol)) := by show _ = _; rw [HWB.out, hwk]; rfl
  clear hwk
  have HS : Hid (∀ (i : Nat) (W : World), i < c.hol.length -> Below W0.heap.size W0 W -> Calls Tryz.prog 195 (#[iV i] ++ #[.pointer (some (aV Q 0)), .pointer (some (aV w.heap.size 0))]) W fun e W' => e = .returned (.bool (decide (d <= c.hol.getD i 0))) /\ Below W.heap.size W W') := fun i W hi hb =>
   wi c P Q w.heap.size d i W (HW1.out.below hb) ((World.cell?_of_block (a := (aV w.heap.size 0)) (hb.block _ (aM W0 _ hdc))).trans hdc) hi
  have HLE : Hid (c.hol.length <= 1000000) := HW1.out.lens.1
  go_wp2_with fail
  refine (q8 195 _ c.hol.length (fun i => decide (d <= c.hol.getD i 0)) W0 HLE.out rfl HS.out (vI d hup) (fun _ _ => by simp [go_sem])).mono ?_
  rintro e w2 ⟨k, rfl, hcut, hb⟩
  obtain ⟨hmem1, hmem2⟩ := mem_cut hup hcut
  have hkle := hcut.le
  have HW2 := aB (HW1.out.below hb)
  have hdc2 : w2.cell? (aV w.heap.size 0) = some (iV d) := (World.cell?_of_block (a := (aV w.heap.size 0)) (hb.block _ (aM W0 _ hdc))).trans hdc
  have HB2 := aB (HB.out.trans (hb.mono HB.out.size))
  have k2' := HW2.out.hol
  clear hb hcut k0 k2 hdc HS HW1
  by_cases hk : k < c.hol.length
  ·obtain ⟨b, off, hA, hb, hcc⟩ := HW2.out.rd.get (i := k) (by simpa using hk)
   have e1 : w2.cell? (aV b (off + k)) = some (iV c.hol[k]) := hcc k _ (by simp [hk])
   have HM : Hid (d ∈ c.hol ↔ c.hol[k] = d) := hmem2 hk
   rw [hA] at k2'
   generalize c.hol[k] = x at *
   clear hcc hmem1 hmem2 hA
   have g1 : ((k : Int) == (c.hol.length : Int)) = false := by simp; omega
   have g2 : ¬ (k : Int) = (c.hol.length : Int) := by omega
   have g3 : ¬ k = c.hol.length := by omega
   have g4 : (0 : Int) <= (k : Int) := by omega
   have g5 : (k : Int) < (c.hol.length : Int) := by omega
   go_wp2
   go_quiet (fail)
   go_wp2
   go_ret
   refine ⟨ah ?_, ai HB2.out _⟩
   rw [HR.out]
   by_cases h : x = d
   ·rw [decide_eq_true (HM.out.2 h)]; simp [h]
   ·rw [decide_eq_false (fun hh => h (HM.out.1 hh))]; simp [h]
  ·obtain rfl : k = c.hol.length := by omega
   have HM := aB (hmem1 rfl)
   clear hmem1 hmem2
   go_wp2
   go_quiet (fail)
   go_wp2
   go_ret
   exact ⟨ah (by rw [HR.out, decide_eq_false HM.out]; rfl), ai HB2.out _⟩
theorem al {B : Nat} {a w : World} (h : Below B a w) : Below B a w.drew := ⟨h.os, h.tape, h.output, h.size, h.block⟩
def WkR (c : Cal) (w : World) (e : Ending) (w' : World) : Prop := ∃ P Q, e = .returned (.func (.func 193) #[] #[.pointer (some (aV P 0)), .pointer (some (aV Q 0))]) /\ Wk w' c P Q /\ w.heap.size <= P /\ w.heap.size <= Q /\ Below w.heap.size w w'
theorem lZ (c : Cal) (w : World) (hc : cP w c) (h7 : c.week.length = 7) (hh : c.hol.length <= 1000000) :
  Calls Tryz.prog 178 #[eI c] w (WkR c w) := by
 have HCI := aB hc
 obtain ⟨x0, x1, x2, x3, x4, x5, x6, hwk⟩ : ∃ x0 x1 x2 x3 x4 x5 x6, c.week = [x0, x1, x2, x3, x4, x5, x6] := by
  match hl : c.week, h7 with
  | [a, b, d, e, f, g, i], _ => exact ⟨a, b, d, e, f, g, i, rfl⟩
 obtain ⟨b, off, hA, hb, hcc⟩ := hc.2.1.get (i := 0) (by rw [List.length_map]; omega)
 have HWL := aB h7
 have HWK := aB hwk
 have HCC := aB hcc
 have HZ : Hid (((w.alloc (.cells #[iV c.zone, .slice c.wA c.week.length c.wc, .slice c.hA c.hol.length c.hc] 110)).alloc (.cells #[oV false, oV false, oV false, oV false, oV false, oV false, oV false] 222)).heap[w.heap.size + 1]? = some (.cells (([oV false, oV false, oV false, oV false, oV false, oV false, oV false] : List Value).toArray) 222 (0, 0))) := by
  have := aC (w.alloc (.cells #[iV c.zone, .slice c.wA c.week.length c.wc, .slice c.hA c.hol.length c.hc] 110)) (.cells #[oV false, oV false, oV false, oV false, oV false, oV false, oV false] 222)
  rwa [aT] at this
 have HQ : Hid (((w.alloc (.cells #[iV c.zone, .slice c.wA c.week.length c.wc, .slice c.hA c.hol.length c.hc] 110)).alloc (.cells #[oV false, oV false, oV false, oV false, oV false, oV false, oV false] 222)).heap[w.heap.size]? = some (.cells #[iV c.zone, .slice c.wA c.week.length c.wc, .slice c.hA c.hol.length c.hc] 110)) := (aK _ _ _ (by simp)).trans (aC _ _)
 have HB0 : Hid (Below w.heap.size w ((w.alloc (.cells #[iV c.zone, .slice c.wA c.week.length c.wc, .slice c.hA c.hol.length c.hc] 110)).alloc (.cells #[oV false, oV false, oV false, oV false, oV false, oV false, oV false] 222))) := ((aJ _ w).alloc (aH _) _).alloc (by simp) _
 have HLT := aB hb
 have HA := aB hA
 clear hc hcc hwk hb hA h7
 go_enter Tryz.func178, Tryz.ntmps178
 go_upto_region 2 with fail
 change Code.wp _ _ _ _ ((w.alloc (.cells #[iV c.zone, .slice c.wA c.week.length c.wc, .slice c.hA c.hol.length c.hc] 110)).alloc (.cells #[oV false, oV false, oV false, oV false, oV false, oV false, oV false] 222))
 generalize ((w.alloc (.cells #[iV c.zone, .slice c.wA c.week.length c.wc, .slice c.hA c.hol.length c.hc] 110)).alloc (.cells #[oV false, oV false, oV false, oV false, oV false, oV false, oV false] 222)) = W1 at *
 have k1 : W1.cell? (aV w.heap.size 1) = some (.slice (some (aV b off)) 7 c.wc) := by
  have h := aA 1 HQ.out
  rw [<- HA.out, <- HWL.out]
  exact h
 have HSRC : Hid (∀ j v, (c.week.map oV)[j]? = some v -> W1.drew.cell? (((aV b off) : Addr).add j) = some v) := fun j v hj => by
  rw [gr]
  exact (HB0.out.cell (p := (aV b (off + j))) HLT.out).trans (HCC.out j v hj)
 go_region_law ((go_must (refine step_copy_splice (by rfl) _ _ _ _ (by rfl) 4 Tryz.underlying108 (by kernel_rfl) _ _ _ _ _ _ (by rfl) (by rfl) (w.heap.size + 1) 0 [oV false, oV false, oV false, oV false, oV false, oV false, oV false] 222 HZ.out (c.week.map oV) (by rw [List.length_map, HWL.out]; rfl) (fun _ => ⟨rfl, _, rfl, HSRC.out⟩) (by rw [List.length_map, HWL.out]; simp) (fun v hv => by obtain ⟨x, _, rfl⟩ := List.mem_map.1 hv; rfl) (w.heap.size + 1) W1 (al (aJ _ _)) (aH _) ?_); intro w4 hg4 hb4))
 have HG4 : Hid (w4.heap[w.heap.size + 1]? = some (.cells ((c.week.map oV).toArray) 222 (0, 0))) := by
  show _ = _
  rw [hg4.out]
  have hl : (c.week.map oV).length = 7 := by rw [List.length_map, HWL.out]
  congr 2
  unfold splice
  rw [hl]
  simp
 have HB4 := aB hb4
 have HQ4 := aB ((hb4.block w.heap.size (by omega)).trans HQ.out)
 clear hg4 hb4 k1
 go_wp2
 go_ret
 have hb0 : Below w.heap.size w w4 := HB0.out.trans (HB4.out.mono (by omega))
 refine ⟨w.heap.size + 1, w.heap.size, rfl, ⟨fun i hi => ?_, aA 2 HQ4.out, HCI.out.2.2.1.below hb0, hh, HCI.out.2.2.2.1⟩, by omega, aH _, hb0⟩
 rw [aA i HG4.out]
 have hi' : i < c.week.length := by rw [HWL.out]; exact hi
 simp [List.getD, hi']
theorem fh (d : Int) (w : World) : Calls Tryz.prog 140 #[iV d] w fun e w' => e = .returned (.bool (dr d)) /\ w = w' := by
 by_cases h : -1000000 <= d
 ·have HR : Hid (dr d = decide (d <= 1000000)) := by show _ = _; unfold dr; simp [h]
  go_enter Tryz.func140, Tryz.ntmps140
  go_wp2
  go_ret
  exact ⟨ah HR.out.symm, rfl⟩
 ·have HR : Hid (dr d = false) := by show _ = _; unfold dr; simp [h]
  go_enter Tryz.func140, Tryz.ntmps140
  go_wp2
  go_ret
  exact ⟨ah HR.out.symm, rfl⟩
theorem bF {w w1 W : World} {X : Nat} {o : Obj} (h : W.heap[X]? = some o) (hb : Below W.heap.size W w1) : w1.heap[X]? = some o := by
 have _ := w
 exact (hb.block _ (aa h)).trans h
set_option maxHeartbeats 2000000 in
theorem work_any (c : Cal) (d : Int) (w : World) (hc : cP w c) (hd : I64 d) :
    Calls Tryz.prog 149 #[eI c, iV d] w fun e w' => e = .returned (.bool (du c && dr d && cz c d)) /\ Below w.heap.size w w' := by
  have HC := aB hc
  have HX : Hid ((w.alloc (.cells #[iV c.zone, .slice c.wA c.week.length c.wc, .slice c.hA c.hol.length c.hc] 110)).heap[w.heap.size]? = some (.cells #[iV c.zone, .slice c.wA c.week.length c.wc, .slice c.hA c.hol.length c.hc] 110)) := aC _ _
  have HB0 := aB (ba w (.cells #[iV c.zone, .slice c.wA c.week.length c.wc, .slice c.hA c.hol.length c.hc] 110))
  have HD := aB hd; clear hd
  clear hc
  go_enter Tryz.func149, Tryz.ntmps149
  go_wp2_with fail
  refine (dU c _ (HC.out.below HB0.out)).mono ?_
  rintro e w1 ⟨rfl, hb⟩
  have HX1 := aB (bF (w := w) HX.out hb)
  have HB1 := aB (HB0.out.trans (hb.mono HB0.out.size))
  clear hb HX HB0
  have k0 : w1.cell? (aV w.heap.size 0) = some (iV c.zone) := aA 0 HX1.out
  have k1 : w1.cell? (aV w.heap.size 1) = some (.slice c.wA c.week.length c.wc) := aA 1 HX1.out
  have k2 : w1.cell? (aV w.heap.size 2) = some (.slice c.hA c.hol.length c.hc) := aA 2 HX1.out
  cases hv : du c with
  | false =>
    have HV := aB hv; clear hv
    go_wp2_with fail
    go_ret
    exact ⟨ah (by rw [HV.out]; rfl), HB1.out⟩
  | true =>
    have HV := aB hv; clear hv
    go_wp2_with fail
    refine (fh d _).mono ?_
    rintro e w2 ⟨rfl, rfl⟩
    cases hr : dr d with
    | false =>
      have HR := aB hr; clear hr
      go_wp2_with fail
      go_ret
      exact ⟨ah (by rw [HV.out, HR.out]; rfl), HB1.out⟩
    | true =>
      have HR := aB hr; clear hr
      have hz := cV HV.out
      have HZ := aB hz; clear hz
      go_wp2_with fail
      refine (lZ c _ (HC.out.below HB1.out) HZ.out.2.2.1 (by have := HZ.out.2.2.2.1; omega)).mono ?_
      rintro e w2 ⟨P, Q, rfl, hwk, hP, hQ, hb⟩
      have HW2 := aB hwk
      have HB2 := aB (bt HB1.out hb)
      clear hwk hb hP hQ k0 k1 k2
      go_wp2_with fail
      refine (kM c P Q d _ HW2.out HZ.out.2.2.2.2 HD.out).mono ?_
      rintro e w3 ⟨rfl, hb⟩
      have HB3 := aB (bt HB2.out hb); clear hb
      go_wp2_with fail
      go_ret
      exact ⟨ah (by rw [HV.out, HR.out]; rfl), HB3.out⟩
theorem gV (c : Cal) (x : Int) (w : World) (hc : cP w c) (hv : du c = true) (h1 : -2000000000 <= x) (h2 : x <= 2000000000) :
  Calls Tryz.prog 79 #[eI c, iV x] w fun e w' => e = .returned (.tuple #[iV (bc c x), iV (fN c x)]) /\ Below w.heap.size w w' := by
 have HC := aB hc
 have HX : Hid ((w.alloc (.cells #[iV c.zone, .slice c.wA c.week.length c.wc, .slice c.hA c.hol.length c.hc] 110)).heap[w.heap.size]? = some (.cells #[iV c.zone, .slice c.wA c.week.length c.wc, .slice c.hA c.hol.length c.hc] 110)) := aC _ _
 have HB0 := aB (ba w (.cells #[iV c.zone, .slice c.wA c.week.length c.wc, .slice c.hA c.hol.length c.hc] 110))
 obtain ⟨z1, z2, -⟩ := cV hv
 have HV := aB hv; clear hv hc
 have i1 : ¬ x < -2000000000 := by omega
 have i2 : ¬ 2000000000 < x := by omega
 have HM : Hid ((x + c.zone - (x + c.zone) % 1440).tdiv 1440 = bc c x) := by
  show _ = _
  unfold bc
  have e : x + c.zone - (x + c.zone) % 1440 = 1440 * ((x + c.zone) / 1440) := by omega
  rw [e, Int.mul_tdiv_cancel_left _ (by omega)]
 have m1 : 0 <= (x + c.zone) % 1440 := by omega
 have m2 : (x + c.zone) % 1440 < 1440 := by omega
 go_enter Tryz.func79, Tryz.ntmps79
 go_wp2_with fail
 refine (dU c _ (HC.out.below HB0.out)).mono ?_
 rintro e w1 ⟨rfl, hb⟩
 rw [HV.out]
 have HX1 := aB (bF (w := w) HX.out hb)
 have HB1 := aB (HB0.out.trans (hb.mono HB0.out.size))
 clear hb HX HB0
 have k0 : w1.cell? (aV w.heap.size 0) = some (iV c.zone) := aA 0 HX1.out
 have k1 : w1.cell? (aV w.heap.size 1) = some (.slice c.wA c.week.length c.wc) := aA 1 HX1.out
 have k2 : w1.cell? (aV w.heap.size 2) = some (.slice c.hA c.hol.length c.hc) := aA 2 HX1.out
 go_wp2_with fail
 refine (sq (x + c.zone) 1440 _ ⟨by omega, by omega⟩ (by omega) (by omega)).mono ?_
 rintro e w2 ⟨rfl, rfl⟩
 go_wp2_with fail
 go_ret2
 refine ⟨?_, HB1.out⟩
 show Ending.returned (.tuple #[iV _, iV _]) = _
 rw [HM.out]
 rfl
theorem kb (c : Cal) (d m : Int) (w : World) (hc : cP w c) (hv : du c = true) (hd : dr d = true) (h1 : 0 <= m) (h2 : m < 1440) :
  Calls Tryz.prog 80 #[eI c, iV d, iV m] w fun e w' => e = .returned (iV (be c d m)) /\ Below w.heap.size w w' := by
 have HC := aB hc
 have HX : Hid ((w.alloc (.cells #[iV c.zone, .slice c.wA c.week.length c.wc, .slice c.hA c.hol.length c.hc] 110)).heap[w.heap.size]? = some (.cells #[iV c.zone, .slice c.wA c.week.length c.wc, .slice c.hA c.hol.length c.hc] 110)) := aC _ _
 have HB0 := aB (ba w (.cells #[iV c.zone, .slice c.wA c.week.length c.wc, .slice c.hA c.hol.length c.hc] 110))
 obtain ⟨z1, z2, -⟩ := cV hv
 have HV := aB hv; clear hv hc
 have hd' := hd
 unfold dr at hd'
 simp only [Bool.and_eq_true, decide_eq_true_eq] at hd'
 obtain ⟨d1, d2⟩ := hd'
 have HDR := aB hd; clear hd
 have i1 : ¬ m < 0 := by omega
 have i2 : ¬ 1440 <= m := by omega
 go_enter Tryz.func80, Tryz.ntmps80
 go_wp2_with fail
 refine (dU c _ (HC.out.below HB0.out)).mono ?_
 rintro e w1 ⟨rfl, hb⟩
 rw [HV.out]
 have HX1 := aB (bF (w := w) HX.out hb)
 have HB1 := aB (HB0.out.trans (hb.mono HB0.out.size))
 clear hb HX HB0
 have k0 : w1.cell? (aV w.heap.size 0) = some (iV c.zone) := aA 0 HX1.out
 have k1 : w1.cell? (aV w.heap.size 1) = some (.slice c.wA c.week.length c.wc) := aA 1 HX1.out
 have k2 : w1.cell? (aV w.heap.size 2) = some (.slice c.hA c.hol.length c.hc) := aA 2 HX1.out
 go_wp2_with fail
 refine (fh d _).mono ?_
 rintro e w2 ⟨rfl, rfl⟩
 rw [HDR.out]
 go_wp2_with fail
 go_ret
 exact ⟨rfl, HB1.out⟩
def xc (B : List Nat) (W W' : World) : Prop := ∀ b ∈ B, W'.heap[b]? = W.heap[b]?
theorem xc.trans {B : List Nat} {a b c : World} (h : xc B a b) (k : xc B b c) : xc B a c := fun x hx => (k x hx).trans (h x hx)
theorem eT {P : Program} {f : FuncId} {fn : Func} {c : Code} {args : Array Value} {w : World} {R : Ending -> World -> Prop}
  (hf : P.funcs[f]? = some fn) (hb : fn.body = some c) (h : c.wp P (bodyPostM Fence.wide 9 P fn R) { tmps := args ++ Array.replicate (fn.ntmps - args.size) undef, defers := [] } w) : Calls P f args w R :=
 (callsIn_wide (n := 9)).1 (callsIn_of_wp_marks hf hb trivial (wpIn_wide.2 h) rfl)
end Go.Proofs.YtpeaiphdkgifaaaGreatDoor
