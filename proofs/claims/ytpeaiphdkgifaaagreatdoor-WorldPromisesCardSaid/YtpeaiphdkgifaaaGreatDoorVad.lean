/- The walks over the survey's small rules. The walk over -/
import Derived.Test.YtpeaiphdkgifaaaGreatDoorVac
import Derived.IntWalk
import Derived.Lib.ConvBytes
import Derived.Laws.Rows
namespace Go.Proofs.YtpeaiphdkgifaaaGreatDoor
open Go.RowKit
set_option maxHeartbeats 20000000
set_option maxRecDepth 100000
def bW (v a b : Int) : Bool := decide (a <= v) && decide (v <= b)
def eL (x : UInt8) : Bool := decide (97 <= x.toNat) && decide (x.toNat <= 122)
def dj (x : UInt8) : Bool := decide (48 <= x.toNat) && decide (x.toNat <= 57)
def bx (i : Int) (n : Nat) : Bool := decide (0 <= i) && decide (i < (n : Int))
def eO (v : Int) : Bool := bW v 0 1439
theorem fm (v a b : Int) (w : World) : Calls Tryz.prog 165 #[iV v, iV a, iV b] w fun e w' => e = .returned (.bool (bW v a b)) /\ w = w' := by
 by_cases h : a <= v
 ·have HR : Hid (bW v a b = decide (v <= b)) := by show _ = _; unfold bW; simp [h]
  go_enter Tryz.func165, Tryz.ntmps165
  go_wp2
  go_ret
  exact ⟨ah HR.out.symm, rfl⟩
 ·have HR : Hid (bW v a b = false) := by show _ = _; unfold bW; simp [h]
  go_enter Tryz.func165, Tryz.ntmps165
  go_wp2
  go_ret
  exact ⟨ah HR.out.symm, rfl⟩
theorem ix (v : Int) (w : World) : Calls Tryz.prog 126 #[iV v] w fun e w' => e = .returned (.bool (eO v)) /\ w = w' := by
 go_enter Tryz.func126, Tryz.ntmps126
 go_wp2_with fail
 refine (fm _ _ _ _).mono ?_
 rintro e w' ⟨rfl, rfl⟩
 go_wp2_with fail
 go_ret
 exact ⟨rfl, rfl⟩
theorem lE (x : UInt8) (w : World) : Calls Tryz.prog 185 #[bV x] w fun e w' => e = .returned (.bool (eL x)) /\ w = w' := by
 by_cases h : 97 <= x.toNat
 ·have HR : Hid (eL x = decide ((x.toNat : Int) <= 122)) := by show _ = _; unfold eL; simp [h]; omega
  have h1 : (97 : Int) <= (x.toNat : Int) := by omega
  go_enter Tryz.func185, Tryz.ntmps185
  go_wp2
  go_ret
  exact ⟨ah HR.out.symm, rfl⟩
 ·have HR : Hid (eL x = false) := by show _ = _; unfold eL; simp [h]
  have h1 : ¬ (97 : Int) <= (x.toNat : Int) := by omega
  go_enter Tryz.func185, Tryz.ntmps185
  go_wp2
  go_ret
  exact ⟨ah HR.out.symm, rfl⟩
theorem lF (x : UInt8) (w : World) : Calls Tryz.prog 186 #[bV x] w fun e w' => e = .returned (.bool (dj x)) /\ w = w' := by
 by_cases h : 48 <= x.toNat
 ·have HR : Hid (dj x = decide ((x.toNat : Int) <= 57)) := by show _ = _; unfold dj; simp [h]; omega
  have h1 : (48 : Int) <= (x.toNat : Int) := by omega
  go_enter Tryz.func186, Tryz.ntmps186
  go_wp2
  go_ret
  exact ⟨ah HR.out.symm, rfl⟩
 ·have HR : Hid (dj x = false) := by show _ = _; unfold dj; simp [h]
  have h1 : ¬ (48 : Int) <= (x.toNat : Int) := by omega
  go_enter Tryz.func186, Tryz.ntmps186
  go_wp2
  go_ret
  exact ⟨ah HR.out.symm, rfl⟩
theorem nE (i : Int) (A : Option Addr) (k c : Nat) (w : World) (_hk : k <= maxLen) : Calls Tryz.prog 169 #[iV i, .slice A k c] w fun e w' => e = .returned (.bool (bx i k)) /\ w = w' := by
 unfold maxLen at _hk
 by_cases h : 0 <= i
 ·have HR : Hid (bx i k = decide (i < (k : Int))) := by show _ = _; unfold bx; simp [h]
  go_enter Tryz.func169, Tryz.ntmps169
  go_wp2
  go_ret
  exact ⟨ah HR.out.symm, rfl⟩
 ·have HR : Hid (bx i k = false) := by show _ = _; unfold bx; simp [h]
  go_enter Tryz.func169, Tryz.ntmps169
  go_wp2
  go_ret
  exact ⟨ah HR.out.symm, rfl⟩
theorem uj (i : Int) (A : Option Addr) (k c : Nat) (w : World) (_hk : k <= maxLen) : Calls Tryz.prog 163 #[iV i, .slice A k c] w fun e w' => e = .returned (.bool (bx i k)) /\ w = w' := by
 unfold maxLen at _hk
 by_cases h : 0 <= i
 ·have HR : Hid (bx i k = decide (i < (k : Int))) := by show _ = _; unfold bx; simp [h]
  go_enter Tryz.func163, Tryz.ntmps163
  go_wp2
  go_ret
  exact ⟨ah HR.out.symm, rfl⟩
 ·have HR : Hid (bx i k = false) := by show _ = _; unfold bx; simp [h]
  go_enter Tryz.func163, Tryz.ntmps163
  go_wp2
  go_ret
  exact ⟨ah HR.out.symm, rfl⟩
theorem wf (i : Int) (A : Option Addr) (k c : Nat) (w : World) (_hk : k <= maxLen) : Calls Tryz.prog 162 #[iV i, .slice A k c] w fun e w' => e = .returned (.bool (bx i k)) /\ w = w' := by
 unfold maxLen at _hk
 by_cases h : 0 <= i
 ·have HR : Hid (bx i k = decide (i < (k : Int))) := by show _ = _; unfold bx; simp [h]
  go_enter Tryz.func162, Tryz.ntmps162
  go_wp2
  go_ret
  exact ⟨ah HR.out.symm, rfl⟩
 ·have HR : Hid (bx i k = false) := by show _ = _; unfold bx; simp [h]
  go_enter Tryz.func162, Tryz.ntmps162
  go_wp2
  go_ret
  exact ⟨ah HR.out.symm, rfl⟩
abbrev bB (n : Net) : Value := .agg #[.slice n.calA n.cals.length n.calC, .slice n.namA n.names.length n.namC, .slice n.opA n.ops.length n.opC, .slice n.offA n.offs.length n.offC, .slice n.linA n.lins.length n.linC, .slice n.clsA n.clss.length n.clsC]
abbrev ae (n : Net) : Obj := .cells #[.slice n.calA n.cals.length n.calC, .slice n.namA n.names.length n.namC, .slice n.opA n.ops.length n.opC, .slice n.offA n.offs.length n.offC, .slice n.linA n.lins.length n.linC, .slice n.clsA n.clss.length n.clsC] 29
abbrev dk (L : Lin) : Obj := .cells #[sV L.name, iV L.frm, iV L.to, iV L.at_, iV L.travel, iV L.load] 52
def eY (n : Net) (L : Lin) : Bool := if bx L.frm n.offs.length = true /\ bx L.to n.offs.length = true /\ L.frm ≠ L.to then eO L.at_ && bW L.travel 1 5000 && bW L.load 1 40 else false
theorem oL (n : Net) (L : Lin) (w : World) (ho : n.offs.length <= maxLen) :
  Calls Tryz.prog 122 #[bB n, ud L] w fun e w' => e = .returned (.bool (eY n L)) /\ Below w.heap.size w w' := by
 have HO := aB ho
 unfold maxLen at ho
 have HB : Hid (Below w.heap.size w ((w.alloc (ae n)).alloc (dk L))) := (ba w _).alloc (by simp) _
 have hX := aC w (ae n)
 have hY := aC (w.alloc (ae n)) (dk L)
 have hX2 := (aK (w.alloc (ae n)) (dk L) w.heap.size (by simp)).trans hX
 rw [aT] at hY
 have n3 : ((w.alloc (ae n)).alloc (dk L)).cell? (aV w.heap.size 3) = some (.slice n.offA n.offs.length n.offC) := aA 3 hX2
 have l1 : ((w.alloc (ae n)).alloc (dk L)).cell? (aV (w.heap.size + 1) 1) = some (iV L.frm) := aA 1 hY
 have l2 : ((w.alloc (ae n)).alloc (dk L)).cell? (aV (w.heap.size + 1) 2) = some (iV L.to) := aA 2 hY
 have l3 : ((w.alloc (ae n)).alloc (dk L)).cell? (aV (w.heap.size + 1) 3) = some (iV L.at_) := aA 3 hY
 have l4 : ((w.alloc (ae n)).alloc (dk L)).cell? (aV (w.heap.size + 1) 4) = some (iV L.travel) := aA 4 hY
 have l5 : ((w.alloc (ae n)).alloc (dk L)).cell? (aV (w.heap.size + 1) 5) = some (iV L.load) := aA 5 hY
 clear hX hY hX2
 go_enter Tryz.func122, Tryz.ntmps122
 go_upto_region 1 with fail
 change Code.wp _ _ _ _ ((w.alloc (ae n)).alloc (dk L))
 generalize ((w.alloc (ae n)).alloc (dk L)) = W0 at *
 go_wp2_with fail
 refine (nE _ _ _ _ _ HO.out).mono ?_
 rintro e w2 ⟨rfl, rfl⟩
 by_cases h1 : bx L.frm n.offs.length = true
 case neg =>
  have h1' := Bool.eq_false_iff.2 h1
  have HR : Hid (eY n L = false) := if_neg (fun h => h1 h.1)
  rw [h1']
  go_wp2_with fail
  go_ret
  exact ⟨ah HR.out.symm, HB.out⟩
 have H1 := aB h1
 rw [h1]
 clear h1
 go_wp2_with fail
 refine (nE _ _ _ _ _ HO.out).mono ?_
 rintro e w2 ⟨rfl, rfl⟩
 by_cases h2 : bx L.to n.offs.length = true
 case neg =>
  have h2' := Bool.eq_false_iff.2 h2
  have HR : Hid (eY n L = false) := if_neg (fun h => h2 h.2.1)
  rw [h2']
  go_wp2_with fail
  go_ret
  exact ⟨ah HR.out.symm, HB.out⟩
 have H2 := aB h2
 rw [h2]
 clear h2
 by_cases h3 : L.frm = L.to
 ·have h3' : (L.frm == L.to) = true := by simpa using h3
  have HR : Hid (eY n L = false) := if_neg (fun h => h.2.2 h3)
  clear h3
  go_wp2_with fail
  go_ret
  exact ⟨ah HR.out.symm, HB.out⟩
 have h3' : (L.frm == L.to) = false := by simpa using h3
 have HR : Hid (eY n L = (eO L.at_ && bW L.travel 1 5000 && bW L.load 1 40)) := if_pos ⟨H1.out, H2.out, h3⟩
 clear h3
 go_wp2_with fail
 refine (ix _ _).mono ?_
 rintro e w2 ⟨rfl, rfl⟩
 cases h4 : eO L.at_
 ·rw [h4] at HR
  go_wp2_with fail
  go_ret
  exact ⟨ah HR.out.symm, HB.out⟩
 rw [h4] at HR
 clear h4
 go_wp2_with fail
 refine (fm _ _ _ _).mono ?_
 rintro e w2 ⟨rfl, rfl⟩
 cases h5 : bW L.travel 1 5000
 ·rw [h5] at HR
  go_wp2_with fail
  go_ret
  exact ⟨ah HR.out.symm, HB.out⟩
 rw [h5] at HR
 clear h5
 go_wp2_with fail
 refine (fm _ _ _ _).mono ?_
 rintro e w2 ⟨rfl, rfl⟩
 go_wp2_with fail
 go_ret
 exact ⟨ah HR.out.symm, HB.out⟩
theorem ik {P : Program} {w : World} {ops : Array Oper} {rest : List Oper} {o : Oper} {a : Act} {Q : Exit -> Act -> World -> Prop} (hgd : o.guard = none) (x : Operand) (src dst e : TypeId)
  (ho : o.op = .convert src dst x) (hs : P.underlying src = some .string) (hd : P.underlying dst = some (.slice e)) (he : P.underlying e = some (.int .u8)) (l : List UInt8) (hx : a.eval x = sV l)
  (h : ∀ A c w', Rd w' A (l.map bV) -> Below w.heap.size w w' -> wpList P ops Q rest (a.put o.dst (.slice A l.length c)) w') : wpList P ops Q (o :: rest) a w := by
 have hr := Lib.run_convert_string_bytes (P := P) w src dst e ⟨l.toArray⟩ hs hd he
 have hz : (ByteArray.mk l.toArray).size = l.length := by simp [ByteArray.size]
 rw [hz] at hr
 refine wpList_plain hgd fun K hK => ?_
 unfold Oper.wp execOp
 simp only [ho, hx, Sem.run_bind, Sem.run_pure, Result.andThen_ok, hr]
 refine hK _ _ (h _ _ _ ?_ ?_)
 ·refine .inr ⟨_, _, rfl, by rw [Lib.bytesWorld_size]; omega, fun i u hu => ?_⟩
  rw [aS] at hu
  cases hi : l[i]? with
  | none => rw [hi] at hu; cases hu
  | some y =>
   rw [hi] at hu
   cases hu
   obtain ⟨hil, rfl⟩ := aE.1 hi
   rw [Nat.zero_add, Lib.bytesWorld_cell _ _ _ _ (by rw [hz]; exact hil)]
   simp [hil]
 ·exact ⟨rfl, rfl, rfl, by rw [Lib.bytesWorld_size]; omega, fun i hi => Lib.bytesWorld_at_old w e _ i hi⟩
def dQ (x : UInt8) : Bool := dj x || (decide (65 <= x.toNat) && decide (x.toNat <= 90))
def cC (s : List UInt8) : Bool := decide (1 <= s.length) && decide (s.length <= 8) && s.all dQ
theorem rE (s : List UInt8) (w : World) (hs : s.length <= maxLen) :
  Calls Tryz.prog 164 #[sV s] w fun e w' => e = .returned (.bool (cC s)) /\ Below w.heap.size w w' := by
 unfold maxLen at hs
 by_cases h1 : 1 <= s.length
 case neg =>
  have i1 : (s.length : Int) < 1 := by omega
  have HR : Hid (cC s = false) := by show _ = _; unfold cC; simp only [h1]; rfl
  go_enter Tryz.func164, Tryz.ntmps164
  go_wp2
  go_ret
  exact ⟨ah HR.out.symm, aJ _ _⟩
 by_cases h2 : s.length <= 8
 case neg =>
  have i1 : ¬ (s.length : Int) < 1 := by omega
  have i2 : (8 : Int) < (s.length : Int) := by omega
  have HR : Hid (cC s = false) := by show _ = _; unfold cC; simp only [h2]; simp
  go_enter Tryz.func164, Tryz.ntmps164
  go_wp2
  go_ret
  exact ⟨ah HR.out.symm, aJ _ _⟩
 have i1 : ¬ (s.length : Int) < 1 := by omega
 have i2 : ¬ (8 : Int) < (s.length : Int) := by omega
 have HR : Hid (cC s = s.all dQ) := by show _ = _; unfold cC; simp only [h1, h2]; simp
 go_enter Tryz.func164, Tryz.ntmps164
 go_wp2_with (refine ik (by rfl) (.tmp 13) 9 187 5 (by rfl) Tryz.underlying9 Tryz.underlying187 Tryz.underlying5 s (by rfl) ?_; intro A5 c5 w5 hr5 hb5; have HR5 := aB hr5; clear hr5; have HB5 := aB hb5; clear hb5)
 go_loopw [16] (fun i wr => ∃ k q : Nat, k <= s.length /\ i = iV k /\ wr = w5.drewN q /\ Hid (∀ j x, j < k -> s[j]? = some x -> dQ x = true)) (fun i _ => s.length + 1 - (intOf i).toNat)
 case atStart => exact ⟨0, 0, by omega, rfl, rfl, fun j x h => by omega⟩
 case round =>
  obtain ⟨k, q, hk, rfl, rfl, HQ⟩ := hrel
  have m0 : (0 : Int) <= (k : Int) := by omega
  by_cases hlt : k < s.length
  ·have m1 : (k : Int) < (s.length : Int) := by omega
   have hl : s[k]? = some s[k] := aD _
   obtain ⟨rb, ro, hrA, -, hrc⟩ := HR5.out.get (i := k) (by rw [List.length_map]; exact hlt)
   have x2 : w5.cell? (aV rb (ro + k)) = some (bV s[k]) := hrc k _ (by simp [hlt])
   generalize s[k] = x at hl x2
   have HL := aB hl; clear hl hrc
   subst hrA
   have HNO : Hid (dQ x = false -> cC s = false) := fun h => by
    rw [HR.out, Bool.eq_false_iff]
    intro h2
    have := List.all_eq_true.1 h2 x (aF HL.out)
    rw [h] at this
    cases this
   have HYES : Hid (dQ x = true -> ∀ j y, j < k + 1 -> s[j]? = some y -> dQ y = true) := fun hy j y hj hjy => by
    rcases Nat.lt_or_ge j k with h | h
    ·exact HQ.out j y h hjy
    ·obtain rfl : j = k := by omega
     rw [HL.out] at hjy
     cases hjy
     exact hy
   have hx := x.toNat_lt
   go_wp2_with fail
   refine (lF _ _).mono ?_
   rintro e w2 ⟨rfl, rfl⟩
   cases hd : dj x
   ·by_cases h65 : 65 <= x.toNat
    ·by_cases h90 : x.toNat <= 90
     ·have c1 : ¬ (x.toNat : Int) < 65 := by omega
      have c2 : ¬ (90 : Int) < (x.toNat : Int) := by omega
      have HC : Hid (dQ x = true) := by show _ = _; unfold dQ; simp [h65, h90]
      go_wp2
      go_roundw
      case rel => exact ⟨k + 1, _, by omega, by go_num, rfl, HYES.out HC.out⟩
      case measure => simp [intOf]; omega
     ·have c1 : ¬ (x.toNat : Int) < 65 := by omega
      have c2 : (90 : Int) < (x.toNat : Int) := by omega
      have HC : Hid (cC s = false) := HNO.out (by unfold dQ; simp [hd, h90])
      go_wp2
      go_ret
      exact ⟨ah HC.out.symm, ai HB5.out _⟩
    ·have c1 : (x.toNat : Int) < 65 := by omega
     have HC : Hid (cC s = false) := HNO.out (by unfold dQ; simp [hd, h65])
     go_wp2
     go_ret
     exact ⟨ah HC.out.symm, ai HB5.out _⟩
   ·have HC : Hid (dQ x = true) := by show _ = _; unfold dQ; simp [hd]
    go_wp2
    go_roundw
    case rel => exact ⟨k + 1, _, by omega, by go_num, rfl, HYES.out HC.out⟩
    case measure => simp [intOf]; omega
  ·have m1 : ¬ (k : Int) < (s.length : Int) := by omega
   have HC : Hid (cC s = true) := by
    show _ = _
    rw [HR.out, List.all_eq_true]
    intro x hx
    obtain ⟨j, hj, hjx⟩ := List.mem_iff_getElem.1 hx
    exact HQ.out j x (by omega) (by rw [aD hj, hjx])
   go_wp2
   go_ret
   exact ⟨ah HC.out.symm, ai HB5.out _⟩
abbrev dg (o : Off) : Obj := .cells #[sV o.name, iV o.op, iV o.cal, iV o.pockets, iV o.passes, iV o.minutes, .slice o.cA o.codes.length o.cc] 54
def ct (n : Net) (o : Off) : Bool := if bx o.op n.ops.length = true /\ bx o.cal n.cals.length = true /\ o.codes.length <= 20 /\ o.codes.all cC = true then bW o.pockets 2 64 && bW o.passes 1 4 && bW o.minutes 1 240 else false
theorem mI (n : Net) (o : Off) (w : World) (ho : jL w o) (hn : n.ops.length <= maxLen /\ n.cals.length <= maxLen) :
  Calls Tryz.prog 118 #[bB n, tP o] w fun e w' => e = .returned (.bool (ct n o)) /\ Below w.heap.size w w' := by
 have HB : Hid (Below w.heap.size w ((w.alloc (ae n)).alloc (dg o))) := (ba w _).alloc (by simp) _
 have HRD := aB (ho.2.1.below HB.out)
 have HCL := aB ho.2.2.1
 have hcl := ho.2.2.2
 have HN1 := aB hn.1
 have HN2 := aB hn.2
 clear ho hn
 unfold maxLen at hcl
 have hX := aC w (ae n)
 have hY := aC (w.alloc (ae n)) (dg o)
 have hX2 := (aK (w.alloc (ae n)) (dg o) w.heap.size (by simp)).trans hX
 rw [aT] at hY
 have HS : Hid (w.heap.size + 1 < ((w.alloc (ae n)).alloc (dg o)).heap.size) := by show _ < _; simp
 have n0 : ((w.alloc (ae n)).alloc (dg o)).cell? (aV w.heap.size 0) = some (.slice n.calA n.cals.length n.calC) := aA 0 hX2
 have n2 : ((w.alloc (ae n)).alloc (dg o)).cell? (aV w.heap.size 2) = some (.slice n.opA n.ops.length n.opC) := aA 2 hX2
 have l1 : ((w.alloc (ae n)).alloc (dg o)).cell? (aV (w.heap.size + 1) 1) = some (iV o.op) := aA 1 hY
 have l2 : ((w.alloc (ae n)).alloc (dg o)).cell? (aV (w.heap.size + 1) 2) = some (iV o.cal) := aA 2 hY
 have l3 : ((w.alloc (ae n)).alloc (dg o)).cell? (aV (w.heap.size + 1) 3) = some (iV o.pockets) := aA 3 hY
 have l4 : ((w.alloc (ae n)).alloc (dg o)).cell? (aV (w.heap.size + 1) 4) = some (iV o.passes) := aA 4 hY
 have l5 : ((w.alloc (ae n)).alloc (dg o)).cell? (aV (w.heap.size + 1) 5) = some (iV o.minutes) := aA 5 hY
 have l6 : ((w.alloc (ae n)).alloc (dg o)).cell? (aV (w.heap.size + 1) 6) = some (.slice o.cA o.codes.length o.cc) := aA 6 hY
 clear hX hY hX2
 go_enter Tryz.func118, Tryz.ntmps118
 go_upto_region 1 with fail
 change Code.wp _ _ _ _ ((w.alloc (ae n)).alloc (dg o))
 generalize ((w.alloc (ae n)).alloc (dg o)) = W0 at *
 go_wp2_with fail
 refine (wf _ _ _ _ _ HN1.out).mono ?_
 rintro e w2 ⟨rfl, rfl⟩
 by_cases h1 : bx o.op n.ops.length = true
 case neg =>
  have h1' := Bool.eq_false_iff.2 h1
  have HR : Hid (ct n o = false) := if_neg (fun h => h1 h.1)
  rw [h1']
  go_wp2_with fail
  go_ret
  exact ⟨ah HR.out.symm, HB.out⟩
 have H1 := aB h1
 rw [h1]
 clear h1
 go_wp2_with fail
 refine (uj _ _ _ _ _ HN2.out).mono ?_
 rintro e w2 ⟨rfl, rfl⟩
 by_cases h2 : bx o.cal n.cals.length = true
 case neg =>
  have h2' := Bool.eq_false_iff.2 h2
  have HR : Hid (ct n o = false) := if_neg (fun h => h2 h.2.1)
  rw [h2']
  go_wp2_with fail
  go_ret
  exact ⟨ah HR.out.symm, HB.out⟩
 have H2 := aB h2
 rw [h2]
 clear h2
 by_cases h3 : o.codes.length <= 20
 case neg =>
  have i3 : (20 : Int) < (o.codes.length : Int) := by omega
  have HR : Hid (ct n o = false) := if_neg (fun h => h3 h.2.2.1)
  clear h3
  go_wp2_with fail
  go_ret
  exact ⟨ah HR.out.symm, HB.out⟩
 have i3 : ¬ (20 : Int) < (o.codes.length : Int) := by omega
 have H3 := aB h3
 go_wp2_with fail
 go_loopw [30] (fun i wr => ∃ k : Nat, k <= o.codes.length /\ i = iV k /\ Hid (Below W0.heap.size W0 wr) /\ Hid (∀ j x, j < k -> o.codes[j]? = some x -> cC x = true)) (fun i _ => o.codes.length + 1 - (intOf i).toNat)
 case atStart => exact ⟨0, by omega, rfl, aJ _ _, fun j x h => by omega⟩
 case round =>
  obtain ⟨k, hk, rfl, HBW, HQ⟩ := hrel
  have m0 : (0 : Int) <= (k : Int) := by omega
  by_cases hlt : k < o.codes.length
  ·have m1 : (k : Int) < (o.codes.length : Int) := by omega
   have hl : o.codes[k]? = some o.codes[k] := aD _
   obtain ⟨rb, ro, hrA, -, hrc⟩ := (HRD.out.below HBW.out).get (i := k) (by rw [List.length_map]; exact hlt)
   have x2 : wr.cell? (aV rb (ro + k)) = some (sV o.codes[k]) := hrc k _ (by simp [hlt])
   generalize o.codes[k] = x at hl x2
   have HL := aB hl; clear hl hrc
   have HXL := aB (HCL.out x (aF HL.out))
   rw [hrA]
   go_wp2_with fail
   refine (rE x _ HXL.out).mono ?_
   rintro e w2 ⟨rfl, hb⟩
   have HB2 := aB hb; clear hb
   cases hd : cC x
   ·have HC : Hid (ct n o = false) := if_neg (fun h => by
     have := List.all_eq_true.1 h.2.2.2 x (aF HL.out)
     rw [hd] at this
     cases this)
    go_wp2_with fail
    go_ret
    exact ⟨ah HC.out.symm, bt HB.out (bt HBW.out HB2.out)⟩
   ·have HYES : Hid (∀ j y, j < k + 1 -> o.codes[j]? = some y -> cC y = true) := fun j y hj hjy => by
     rcases Nat.lt_or_ge j k with h | h
     ·exact HQ.out j y h hjy
     ·obtain rfl : j = k := by omega
      rw [HL.out] at hjy
      cases hjy
      exact hd
    clear hd
    go_wp2_with fail
    go_roundw
    case rel => exact ⟨k + 1, by omega, by go_num, bt HBW.out HB2.out, HYES.out⟩
    case measure => simp [intOf]; omega
  ·have m1 : ¬ (k : Int) < (o.codes.length : Int) := by omega
   have HR : Hid (ct n o = (bW o.pockets 2 64 && bW o.passes 1 4 && bW o.minutes 1 240)) := if_pos ⟨H1.out, H2.out, H3.out, by
    rw [List.all_eq_true]
    intro x hx
    obtain ⟨j, hj, hjx⟩ := List.mem_iff_getElem.1 hx
    exact HQ.out j x (by omega) (by rw [aD hj, hjx])⟩
   have p3 := (HBW.out.cell (p := (aV (w.heap.size + 1) 3)) HS.out).trans l3
   have p4 := (HBW.out.cell (p := (aV (w.heap.size + 1) 4)) HS.out).trans l4
   have p5 := (HBW.out.cell (p := (aV (w.heap.size + 1) 5)) HS.out).trans l5
   go_wp2_with fail
   refine (fm _ _ _ _).mono ?_
   rintro e w2 ⟨rfl, rfl⟩
   cases h4 : bW o.pockets 2 64
   ·rw [h4] at HR
    go_wp2_with fail
    go_ret
    exact ⟨ah HR.out.symm, bt HB.out HBW.out⟩
   rw [h4] at HR
   clear h4
   go_wp2_with fail
   refine (fm _ _ _ _).mono ?_
   rintro e w2 ⟨rfl, rfl⟩
   cases h5 : bW o.passes 1 4
   ·rw [h5] at HR
    go_wp2_with fail
    go_ret
    exact ⟨ah HR.out.symm, bt HB.out HBW.out⟩
   rw [h5] at HR
   clear h5
   go_wp2_with fail
   refine (fm _ _ _ _).mono ?_
   rintro e w2 ⟨rfl, rfl⟩
   go_wp2_with fail
   go_ret
   exact ⟨ah HR.out.symm, bt HB.out HBW.out⟩
def kwL : List (List UInt8) := [[99, 97, 108, 101, 110, 100, 97, 114], [111, 112, 101, 114, 97, 116, 111, 114], [111, 102, 102, 105, 99, 101], [108, 105, 110, 101], [99, 108, 97, 115, 115], [122, 111, 110, 101], [119, 101, 101, 107], [104, 111, 108, 105, 100, 97, 121], [112, 111, 99, 107, 101, 116, 115], [112, 97, 115, 115, 101, 115], [109, 105, 110, 117, 116, 101, 115], [99, 111, 100, 101, 115], [97, 116], [116, 114, 97, 118, 101, 108], [108, 111, 97, 100], [99, 117, 116], [100, 101, 108, 105, 118, 101, 114]]
def kwA : Array Value := (kwL.map sV).toArray
def KW (w : World) : Prop := ∃ t fr, w.heap[0]? = some (.cells kwA t fr)
theorem KW.below {w w' : World} (h : KW w) (hb : Below w.heap.size w w') : KW w' := by
 obtain ⟨t, fr, h⟩ := h
 exact ⟨t, fr, (hb.block 0 (aa h)).trans h⟩
def da (x : UInt8) : Bool := eL x || dj x || decide (x.toNat = 95)
def bI (s : List UInt8) : Bool := match s with
 | [] => false
 | x :: t => decide (t.length <= 15) && eL x && (x :: t).all da && !decide ((x :: t) ∈ kwL)
theorem mE : kwL.length = 17 := rfl
theorem td (k : Nat) (v : Value) (hix : kwA[k]? = some v) (hk : k < 17) (W : World) :
  (Instr.index 212 (.agg kwA) (iV k)).run Tryz.prog W = .ok v W := by
 have hv : v = kwA.getD k undef := by rw [Array.getD_eq_getD_getElem?, hix]; rfl
 subst hv
 clear hix
 rcases (by omega : k = 0 ∨ k = 1 ∨ k = 2 ∨ k = 3 ∨ k = 4 ∨ k = 5 ∨ k = 6 ∨ k = 7 ∨ k = 8 ∨ k = 9 ∨ k = 10 ∨ k = 11 ∨ k = 12 ∨ k = 13 ∨ k = 14 ∨ k = 15 ∨ k = 16) with rfl | rfl | rfl | rfl | rfl | rfl | rfl | rfl | rfl | rfl | rfl | rfl | rfl | rfl | rfl | rfl | rfl <;> (show _ = _; kernel_rfl)
theorem gm (s : List UInt8) (w : World) (hs : s.length <= maxLen) (hk : KW w) :
  Calls Tryz.prog 153 #[sV s] w fun e w' => e = .returned (.bool (bI s)) /\ Below w.heap.size w w' := by
 unfold maxLen at hs
 have HK := aB hk; clear hk
 cases s with
 | nil =>
  go_enter Tryz.func153, Tryz.ntmps153
  go_wp2
  go_ret
  exact ⟨rfl, aJ _ _⟩
 | cons y t =>
  by_cases h2 : t.length <= 15
  case neg =>
   have i1 : ¬ ((t.length : Int) + 1 < 1) := by omega
   have i2 : (16 : Int) < (t.length : Int) + 1 := by omega
   have HR : Hid (bI (y :: t) = false) := by show _ = _; unfold bI; simp only [h2]; simp
   go_enter Tryz.func153, Tryz.ntmps153
   go_wp2
   go_ret
   exact ⟨ah HR.out.symm, aJ _ _⟩
  have i1 : ¬ ((t.length : Int) + 1 < 1) := by omega
  have i2 : ¬ (16 : Int) < (t.length : Int) + 1 := by omega
  go_enter Tryz.func153, Tryz.ntmps153
  go_wp2_with fail
  refine (lE y _).mono ?_
  rintro e w2 ⟨rfl, rfl⟩
  cases hy : eL y
  ·have HR : Hid (bI (y :: t) = false) := by show _ = _; unfold bI; simp [hy]
   go_wp2_with fail
   go_ret
   exact ⟨ah HR.out.symm, aJ _ _⟩
  have HR : Hid (bI (y :: t) = ((y :: t).all da && !decide ((y :: t) ∈ kwL))) := by show _ = _; unfold bI; simp only [h2, hy]; simp
  have hlen : ((t.length : Int) + 1) = ((y :: t).length : Int) := by simp
  have hs' : (y :: t).length <= 16 := by simp; omega
  clear hy h2 i1 i2
  have hz : (ByteArray.mk (y :: t).toArray).size = (y :: t).length := by simp [ByteArray.size]
  generalize (ByteArray.mk (y :: t).toArray)[0]'(by simp [ByteArray.size]) = v17
  rw [hlen]
  clear hlen
  generalize hst : y :: t = s at *
  have HST := aB hst; clear hst
  go_wp2_with (refine ik (by rfl) (.tmp 21) 9 187 5 (by rfl) Tryz.underlying9 Tryz.underlying187 Tryz.underlying5 s (by rfl) ?_; intro A5 c5 w5 hr5 hb5; have HR5 := aB hr5; clear hr5; have HB5 := aB hb5; clear hb5)
  go_loopw [24] (fun i wr => ∃ k q : Nat, k <= s.length /\ i = iV k /\ wr = w5.drewN q /\ Hid (∀ j x, j < k -> s[j]? = some x -> da x = true)) (fun i _ => s.length + 1 - (intOf i).toNat)
  case atStart => exact ⟨0, 0, by omega, rfl, rfl, fun j x h => by omega⟩
  case round =>
   obtain ⟨k, q, hk, rfl, rfl, HQ⟩ := hrel
   have m0 : (0 : Int) <= (k : Int) := by omega
   by_cases hlt : k < s.length
   ·have m1 : (k : Int) < (s.length : Int) := by omega
    have hl : s[k]? = some s[k] := aD _
    obtain ⟨rb, ro, hrA, -, hrc⟩ := HR5.out.get (i := k) (by rw [List.length_map]; exact hlt)
    have x2 : w5.cell? (aV rb (ro + k)) = some (bV s[k]) := hrc k _ (by simp [hlt])
    generalize s[k] = x at hl x2
    have HL := aB hl; clear hl hrc
    subst hrA
    have HNO : Hid (da x = false -> bI s = false) := fun h => by
     rw [HR.out, Bool.and_eq_false_iff]
     left
     rw [Bool.eq_false_iff]
     intro h2
     have := List.all_eq_true.1 h2 x (aF HL.out)
     rw [h] at this
     cases this
    have HYES : Hid (da x = true -> ∀ j y, j < k + 1 -> s[j]? = some y -> da y = true) := fun hy j y hj hjy => by
     rcases Nat.lt_or_ge j k with h | h
     ·exact HQ.out j y h hjy
     ·obtain rfl : j = k := by omega
      rw [HL.out] at hjy
      cases hjy
      exact hy
    have hx := x.toNat_lt
    go_wp2_with fail
    refine (lE _ _).mono ?_
    rintro e w2 ⟨rfl, rfl⟩
    cases hsm : eL x
    case true =>
     have HC : Hid (da x = true) := by show _ = _; unfold da; simp [hsm]
     go_wp2_with fail
     go_roundw
     case rel => exact ⟨k + 1, _, by omega, by go_num, rfl, HYES.out HC.out⟩
     case measure => simp [intOf]; omega
    go_wp2_with fail
    refine (lF _ _).mono ?_
    rintro e w2 ⟨rfl, rfl⟩
    cases hd : dj x
    case true =>
     have HC : Hid (da x = true) := by show _ = _; unfold da; simp [hd]
     go_wp2_with fail
     go_roundw
     case rel => exact ⟨k + 1, _, by omega, by go_num, rfl, HYES.out HC.out⟩
     case measure => simp [intOf]; omega
    by_cases h95 : x.toNat = 95
    ·have c1 : ((x.toNat : Int) != 95) = false := by simp; omega
     have c2 : ((x.toNat : Int) == 95) = true := by simp; omega
     have HC : Hid (da x = true) := by show _ = _; unfold da; simp [h95]
     clear h95
     go_wp2_with fail
     go_roundw
     case rel => exact ⟨k + 1, _, by omega, by go_num, rfl, HYES.out HC.out⟩
     case measure => simp [intOf]; omega
    ·have c1 : ((x.toNat : Int) != 95) = true := by simp; omega
     have c2 : ((x.toNat : Int) == 95) = false := by simp; omega
     have HC : Hid (bI s = false) := HNO.out (by unfold da; simp [hsm, hd, h95])
     clear h95
     go_wp2_with fail
     go_ret
     exact ⟨ah (by rw [HST.out]; exact HC.out.symm), ai HB5.out _⟩
   ·have m1 : ¬ (k : Int) < (s.length : Int) := by omega
    have HC : Hid (bI s = !decide (s ∈ kwL)) := by
     show _ = _
     have : s.all da = true := by
      rw [List.all_eq_true]
      intro x hx
      obtain ⟨j, hj, hjx⟩ := List.mem_iff_getElem.1 hx
      exact HQ.out j x (by omega) (by rw [aD hj, hjx])
     rw [HR.out, this]
     rfl
    obtain ⟨kt, kfr, hkr⟩ := HK.out.below (ai HB5.out q)
    have HKR := aB hkr; clear hkr
    go_wp2_with (refine wpList_load_row (by rfl) 212 (.global 0) (by rfl) 0 (by rfl) kt kwA kfr _ HKR.out Tryz.underlying212 (by rfl) (by kernel_rfl) ?_)
    go_loopw [42] (fun i wr => ∃ k p : Nat, k <= 17 /\ i = iV k /\ wr = w5.drewN p /\ Hid (∀ j x, j < k -> kwL[j]? = some x -> s ≠ x)) (fun i _ => 18 - (intOf i).toNat)
    case atStart => exact ⟨0, _, by omega, rfl, rfl, fun j x h => by omega⟩
    case round =>
     obtain ⟨k, p, hk2, rfl, rfl, HW⟩ := hrel
     have m0 : (0 : Int) <= (k : Int) := by omega
     by_cases hlt : k < 17
     ·have m1' : (k : Int) < 17 := by omega
      obtain ⟨x, hx⟩ : ∃ x, kwL[k]? = some x := ⟨kwL[k]'(by rw [mE]; exact hlt), aD _⟩
      have hix : kwA[k]? = some (sV x) := by unfold kwA; simp [hx]
      have hrun : ∀ W : World, (Instr.index 212 (.agg kwA) (iV k)).run Tryz.prog W = .ok (sV x) W := fun W => td k _ hix (by omega) W
      have HX := aB hx; clear hx
      go_upto_region 12 with fail
      clear hrun
      cases hsx : s == x
      ·have HN : Hid (∀ j x, j < k + 1 -> kwL[j]? = some x -> s ≠ x) := fun j z hj hz => by
        rcases Nat.lt_or_ge j k with h | h
        ·exact HW.out j z h hz
        ·obtain rfl : j = k := by omega
         rw [HX.out] at hz
         cases hz
         simpa using hsx
       go_wp2_with fail
       go_roundw
       case rel => exact ⟨k + 1, _, by omega, by go_num, rfl, HN.out⟩
       case measure => simp [intOf]; omega
      ·have HF : Hid (bI s = false) := by
        show _ = _
        rw [HC.out]
        have h1 : s = x := by simpa using hsx
        have h2 : s ∈ kwL := h1 ▸ aF HX.out
        simp [h2]
       go_wp2_with fail
       go_ret
       exact ⟨ah (by rw [HST.out]; exact HF.out.symm), ai HB5.out _⟩
     ·have m1' : ¬ (k : Int) < 17 := by omega
      have HF : Hid (bI s = true) := by
       show _ = _
       rw [HC.out]
       have : s ∉ kwL := fun h => by
        obtain ⟨j, hj, hjx⟩ := List.mem_iff_getElem.1 h
        exact HW.out j s (by rw [mE] at hj; omega) (by rw [aD hj, hjx]) rfl
       simp [this]
      go_wp2_with fail
      go_ret
      exact ⟨ah (by rw [HST.out]; exact HF.out.symm), ai HB5.out _⟩
def fd (f : FuncId) (cb : Array Value) (nm : Nat -> List UInt8) (cnt : Nat) (w : World) : Prop :=
 ∀ i < cnt, ∀ w', Below w.heap.size w w' -> Calls Tryz.prog f (#[iV i] ++ cb) w' fun e w2 => e = .returned (sV (nm i)) /\ Below w'.heap.size w' w2
theorem fd.below {f : FuncId} {cb : Array Value} {nm : Nat -> List UInt8} {cnt : Nat} {w w1 : World} (h : fd f cb nm cnt w) (hb : Below w.heap.size w w1) : fd f cb nm cnt w1 :=
 fun i hi w' hb' => h i hi w' (bt hb hb')
def jG : Bool -> Int
 | true => 0
 | false => 1
theorem tw (f : FuncId) (cb : Array Value) (nm : Nat -> List UInt8) (cnt i P : Nat) (w : World) (hf : fd f cb nm cnt w) (hk : KW w) (hi : i < cnt) (hm : (nm i).length <= maxLen) (hp : w.cell? (aV P 0) = some (.func (.func f) #[] cb)) (eg : ∀ args w, (callFunc f args).run Tryz.prog w = .ok (.enter f args) w) :
  Calls Tryz.prog 152 #[iV i, .pointer (some (aV P 0))] w fun e w' => e = .returned (iV (jG (bI (nm i)))) /\ Below w.heap.size w w' := by
 have HF := aB hf; clear hf
 have HK := aB hk; clear hk
 go_enter Tryz.func152, Tryz.ntmps152
 go_wp2_with fail
 refine (HF.out i hi _ (aJ _ _)).mono ?_
 rintro e w2 ⟨rfl, hb⟩
 have HB := aB hb; clear hb
 go_wp2_with fail
 refine (gm _ _ hm (HK.out.below HB.out)).mono ?_
 rintro e w3 ⟨rfl, hb⟩
 have HB2 := aB hb; clear hb
 have HX : Hid (Below w.heap.size w w3) := bt HB.out HB2.out
 cases h : bI (nm i)
 case false =>
  go_wp2_with fail
  all_goals go_ret
  all_goals exact ⟨by rw [h]; rfl, HX.out⟩
 case true =>
  go_wp2_with fail
  all_goals go_ret
  all_goals exact ⟨by rw [h]; rfl, HX.out⟩
theorem vo (f : FuncId) (cb : Array Value) (nm : Nat -> List UInt8) (cnt i P : Nat) (w : World) (hf : fd f cb nm cnt w) (hk : KW w) (hi : i < cnt) (hm : (nm i).length <= maxLen) (hp : w.cell? (aV P 0) = some (.func (.func f) #[] cb)) (eg : ∀ args w, (callFunc f args).run Tryz.prog w = .ok (.enter f args) w) :
  Calls Tryz.prog 156 #[iV i, .pointer (some (aV P 0))] w fun e w' => e = .returned (iV (jG (bI (nm i)))) /\ Below w.heap.size w w' := by
 have HF := aB hf; clear hf
 have HK := aB hk; clear hk
 go_enter Tryz.func156, Tryz.ntmps156
 go_wp2_with fail
 refine (HF.out i hi _ (aJ _ _)).mono ?_
 rintro e w2 ⟨rfl, hb⟩
 have HB := aB hb; clear hb
 go_wp2_with fail
 refine (gm _ _ hm (HK.out.below HB.out)).mono ?_
 rintro e w3 ⟨rfl, hb⟩
 have HB2 := aB hb; clear hb
 have HX : Hid (Below w.heap.size w w3) := bt HB.out HB2.out
 cases h : bI (nm i)
 case false =>
  go_wp2_with fail
  all_goals go_ret
  all_goals exact ⟨by rw [h]; rfl, HX.out⟩
 case true =>
  go_wp2_with fail
  all_goals go_ret
  all_goals exact ⟨by rw [h]; rfl, HX.out⟩
theorem tp (f : FuncId) (cb : Array Value) (nm : Nat -> List UInt8) (cnt i P : Nat) (w : World) (hf : fd f cb nm cnt w) (hk : KW w) (hi : i < cnt) (hm : (nm i).length <= maxLen) (hp : w.cell? (aV P 0) = some (.func (.func f) #[] cb)) (eg : ∀ args w, (callFunc f args).run Tryz.prog w = .ok (.enter f args) w) :
  Calls Tryz.prog 159 #[iV i, .pointer (some (aV P 0))] w fun e w' => e = .returned (iV (jG (bI (nm i)))) /\ Below w.heap.size w w' := by
 have HF := aB hf; clear hf
 have HK := aB hk; clear hk
 go_enter Tryz.func159, Tryz.ntmps159
 go_wp2_with fail
 refine (HF.out i hi _ (aJ _ _)).mono ?_
 rintro e w2 ⟨rfl, hb⟩
 have HB := aB hb; clear hb
 go_wp2_with fail
 refine (gm _ _ hm (HK.out.below HB.out)).mono ?_
 rintro e w3 ⟨rfl, hb⟩
 have HB2 := aB hb; clear hb
 have HX : Hid (Below w.heap.size w w3) := bt HB.out HB2.out
 cases h : bI (nm i)
 case false =>
  go_wp2_with fail
  all_goals go_ret
  all_goals exact ⟨by rw [h]; rfl, HX.out⟩
 case true =>
  go_wp2_with fail
  all_goals go_ret
  all_goals exact ⟨by rw [h]; rfl, HX.out⟩
theorem tq (f : FuncId) (cb : Array Value) (nm : Nat -> List UInt8) (cnt i P : Nat) (w : World) (hf : fd f cb nm cnt w) (hk : KW w) (hi : i < cnt) (hm : (nm i).length <= maxLen) (hp : w.cell? (aV P 0) = some (.func (.func f) #[] cb)) (eg : ∀ args w, (callFunc f args).run Tryz.prog w = .ok (.enter f args) w) :
  Calls Tryz.prog 166 #[iV i, .pointer (some (aV P 0))] w fun e w' => e = .returned (iV (jG (bI (nm i)))) /\ Below w.heap.size w w' := by
 have HF := aB hf; clear hf
 have HK := aB hk; clear hk
 go_enter Tryz.func166, Tryz.ntmps166
 go_wp2_with fail
 refine (HF.out i hi _ (aJ _ _)).mono ?_
 rintro e w2 ⟨rfl, hb⟩
 have HB := aB hb; clear hb
 go_wp2_with fail
 refine (gm _ _ hm (HK.out.below HB.out)).mono ?_
 rintro e w3 ⟨rfl, hb⟩
 have HB2 := aB hb; clear hb
 have HX : Hid (Below w.heap.size w w3) := bt HB.out HB2.out
 cases h : bI (nm i)
 case false =>
  go_wp2_with fail
  all_goals go_ret
  all_goals exact ⟨by rw [h]; rfl, HX.out⟩
 case true =>
  go_wp2_with fail
  all_goals go_ret
  all_goals exact ⟨by rw [h]; rfl, HX.out⟩
theorem tu (f : FuncId) (cb : Array Value) (nm : Nat -> List UInt8) (cnt i P : Nat) (w : World) (hf : fd f cb nm cnt w) (hk : KW w) (hi : i < cnt) (hm : (nm i).length <= maxLen) (hp : w.cell? (aV P 0) = some (.func (.func f) #[] cb)) (eg : ∀ args w, (callFunc f args).run Tryz.prog w = .ok (.enter f args) w) :
  Calls Tryz.prog 170 #[iV i, .pointer (some (aV P 0))] w fun e w' => e = .returned (iV (jG (bI (nm i)))) /\ Below w.heap.size w w' := by
 have HF := aB hf; clear hf
 have HK := aB hk; clear hk
 go_enter Tryz.func170, Tryz.ntmps170
 go_wp2_with fail
 refine (HF.out i hi _ (aJ _ _)).mono ?_
 rintro e w2 ⟨rfl, hb⟩
 have HB := aB hb; clear hb
 go_wp2_with fail
 refine (gm _ _ hm (HK.out.below HB.out)).mono ?_
 rintro e w3 ⟨rfl, hb⟩
 have HB2 := aB hb; clear hb
 have HX : Hid (Below w.heap.size w w3) := bt HB.out HB2.out
 cases h : bI (nm i)
 case false =>
  go_wp2_with fail
  all_goals go_ret
  all_goals exact ⟨by rw [h]; rfl, HX.out⟩
 case true =>
  go_wp2_with fail
  all_goals go_ret
  all_goals exact ⟨by rw [h]; rfl, HX.out⟩
end Go.Proofs.YtpeaiphdkgifaaaGreatDoor
