/-
  The walks over the survey's small rules. The walk over survey.goodLine. The walk over survey.isCode. The walk over survey.goodOffice. The walk over survey.isName. The walks over check's rules.
-/
import Derived.Test.YtpeaiphdkgifaaaGreatDoorWac
import Derived.IntWalk
import Derived.Lib.ConvBytes
import Derived.Laws.Rows
namespace Go.Proofs.YtpeaiphdkgifaaaGreatDoor
open Go.RowKit
set_option maxHeartbeats 20000000
set_option maxRecDepth 100000
def fromB (v a b : Int) : Bool := decide (a <= v) && decide (v <= b)
def smallB (x : UInt8) : Bool := decide (97 <= x.toNat) && decide (x.toNat <= 122)
def digitB (x : UInt8) : Bool := decide (48 <= x.toNat) && decide (x.toNat <= 57)
def indexB (i : Int) (n : Nat) : Bool := decide (0 <= i) && decide (i < (n : Int))
def minuteB (v : Int) : Bool := fromB v 0 1439
theorem isfrom_any (v a b : Int) (w : World) : Calls Tryz.prog 165 #[iV v, iV a, iV b] w fun e w' => e = .returned (.bool (fromB v a b)) /\ w = w' := by
 by_cases h : a <= v
 ·have HR : Hid (fromB v a b = decide (v <= b)) := by show _ = _; unfold fromB; simp [h]
  go_enter Tryz.func165, Tryz.ntmps165
  go_wp2
  go_ret
  exact ⟨ret_bool HR.out.symm, rfl⟩
 ·have HR : Hid (fromB v a b = false) := by show _ = _; unfold fromB; simp [h]
  go_enter Tryz.func165, Tryz.ntmps165
  go_wp2
  go_ret
  exact ⟨ret_bool HR.out.symm, rfl⟩
theorem isminute_any (v : Int) (w : World) : Calls Tryz.prog 126 #[iV v] w fun e w' => e = .returned (.bool (minuteB v)) /\ w = w' := by
 go_enter Tryz.func126, Tryz.ntmps126
 go_wp2_with fail
 refine (isfrom_any _ _ _ _).mono ?_
 rintro e w' ⟨rfl, rfl⟩
 go_wp2_with fail
 go_ret
 exact ⟨rfl, rfl⟩
theorem issmall_any (x : UInt8) (w : World) : Calls Tryz.prog 185 #[bV x] w fun e w' => e = .returned (.bool (smallB x)) /\ w = w' := by
 by_cases h : 97 <= x.toNat
 ·have HR : Hid (smallB x = decide ((x.toNat : Int) <= 122)) := by show _ = _; unfold smallB; simp [h]; omega
  have h1 : (97 : Int) <= (x.toNat : Int) := by omega
  go_enter Tryz.func185, Tryz.ntmps185
  go_wp2
  go_ret
  exact ⟨ret_bool HR.out.symm, rfl⟩
 ·have HR : Hid (smallB x = false) := by show _ = _; unfold smallB; simp [h]
  have h1 : ¬ (97 : Int) <= (x.toNat : Int) := by omega
  go_enter Tryz.func185, Tryz.ntmps185
  go_wp2
  go_ret
  exact ⟨ret_bool HR.out.symm, rfl⟩
theorem isdigit_any (x : UInt8) (w : World) : Calls Tryz.prog 186 #[bV x] w fun e w' => e = .returned (.bool (digitB x)) /\ w = w' := by
 by_cases h : 48 <= x.toNat
 ·have HR : Hid (digitB x = decide ((x.toNat : Int) <= 57)) := by show _ = _; unfold digitB; simp [h]; omega
  have h1 : (48 : Int) <= (x.toNat : Int) := by omega
  go_enter Tryz.func186, Tryz.ntmps186
  go_wp2
  go_ret
  exact ⟨ret_bool HR.out.symm, rfl⟩
 ·have HR : Hid (digitB x = false) := by show _ = _; unfold digitB; simp [h]
  have h1 : ¬ (48 : Int) <= (x.toNat : Int) := by omega
  go_enter Tryz.func186, Tryz.ntmps186
  go_wp2
  go_ret
  exact ⟨ret_bool HR.out.symm, rfl⟩
theorem ixoff_any (i : Int) (A : Option Addr) (k c : Nat) (w : World) (_hk : k <= maxLen) : Calls Tryz.prog 169 #[iV i, .slice A k c] w fun e w' => e = .returned (.bool (indexB i k)) /\ w = w' := by
 unfold maxLen at _hk
 by_cases h : 0 <= i
 ·have HR : Hid (indexB i k = decide (i < (k : Int))) := by show _ = _; unfold indexB; simp [h]
  go_enter Tryz.func169, Tryz.ntmps169
  go_wp2
  go_ret
  exact ⟨ret_bool HR.out.symm, rfl⟩
 ·have HR : Hid (indexB i k = false) := by show _ = _; unfold indexB; simp [h]
  go_enter Tryz.func169, Tryz.ntmps169
  go_wp2
  go_ret
  exact ⟨ret_bool HR.out.symm, rfl⟩
theorem ixcal_any (i : Int) (A : Option Addr) (k c : Nat) (w : World) (_hk : k <= maxLen) : Calls Tryz.prog 163 #[iV i, .slice A k c] w fun e w' => e = .returned (.bool (indexB i k)) /\ w = w' := by
 unfold maxLen at _hk
 by_cases h : 0 <= i
 ·have HR : Hid (indexB i k = decide (i < (k : Int))) := by show _ = _; unfold indexB; simp [h]
  go_enter Tryz.func163, Tryz.ntmps163
  go_wp2
  go_ret
  exact ⟨ret_bool HR.out.symm, rfl⟩
 ·have HR : Hid (indexB i k = false) := by show _ = _; unfold indexB; simp [h]
  go_enter Tryz.func163, Tryz.ntmps163
  go_wp2
  go_ret
  exact ⟨ret_bool HR.out.symm, rfl⟩
theorem ixop_any (i : Int) (A : Option Addr) (k c : Nat) (w : World) (_hk : k <= maxLen) : Calls Tryz.prog 162 #[iV i, .slice A k c] w fun e w' => e = .returned (.bool (indexB i k)) /\ w = w' := by
 unfold maxLen at _hk
 by_cases h : 0 <= i
 ·have HR : Hid (indexB i k = decide (i < (k : Int))) := by show _ = _; unfold indexB; simp [h]
  go_enter Tryz.func162, Tryz.ntmps162
  go_wp2
  go_ret
  exact ⟨ret_bool HR.out.symm, rfl⟩
 ·have HR : Hid (indexB i k = false) := by show _ = _; unfold indexB; simp [h]
  go_enter Tryz.func162, Tryz.ntmps162
  go_wp2
  go_ret
  exact ⟨ret_bool HR.out.symm, rfl⟩
abbrev netV (n : Net) : Value := .agg #[.slice n.calA n.cals.length n.calC, .slice n.namA n.names.length n.namC, .slice n.opA n.ops.length n.opC, .slice n.offA n.offs.length n.offC, .slice n.linA n.lins.length n.linC, .slice n.clsA n.clss.length n.clsC]
abbrev netO (n : Net) : Obj := .cells #[.slice n.calA n.cals.length n.calC, .slice n.namA n.names.length n.namC, .slice n.opA n.ops.length n.opC, .slice n.offA n.offs.length n.offC, .slice n.linA n.lins.length n.linC, .slice n.clsA n.clss.length n.clsC] 29
abbrev linO (L : Lin) : Obj := .cells #[sV L.name, iV L.frm, iV L.to, iV L.at_, iV L.travel, iV L.load] 52
def lineB (n : Net) (L : Lin) : Bool := if indexB L.frm n.offs.length = true /\ indexB L.to n.offs.length = true /\ L.frm ≠ L.to then minuteB L.at_ && fromB L.travel 1 5000 && fromB L.load 1 40 else false
theorem goodline_any (n : Net) (L : Lin) (w : World) (ho : n.offs.length <= maxLen) :
  Calls Tryz.prog 122 #[netV n, linV L] w fun e w' => e = .returned (.bool (lineB n L)) /\ Below w.heap.size w w' := by
 have HO := Lib.hid ho
 unfold maxLen at ho
 have HB : Hid (Below w.heap.size w ((w.alloc (netO n)).alloc (linO L))) := (ba w _).alloc (by simp) _
 have hX := heap_alloc_new w (netO n)
 have hY := heap_alloc_new (w.alloc (netO n)) (linO L)
 have hX2 := (Below.heap_alloc (w.alloc (netO n)) (linO L) w.heap.size (by simp)).trans hX
 rw [World.size_alloc] at hY
 have n3 : ((w.alloc (netO n)).alloc (linO L)).cell? ⟨w.heap.size, 3, none⟩ = some (.slice n.offA n.offs.length n.offC) := cell_of_row _ _ 3 _ _ _ hX2
 have l1 : ((w.alloc (netO n)).alloc (linO L)).cell? ⟨w.heap.size + 1, 1, none⟩ = some (iV L.frm) := cell_of_row _ _ 1 _ _ _ hY
 have l2 : ((w.alloc (netO n)).alloc (linO L)).cell? ⟨w.heap.size + 1, 2, none⟩ = some (iV L.to) := cell_of_row _ _ 2 _ _ _ hY
 have l3 : ((w.alloc (netO n)).alloc (linO L)).cell? ⟨w.heap.size + 1, 3, none⟩ = some (iV L.at_) := cell_of_row _ _ 3 _ _ _ hY
 have l4 : ((w.alloc (netO n)).alloc (linO L)).cell? ⟨w.heap.size + 1, 4, none⟩ = some (iV L.travel) := cell_of_row _ _ 4 _ _ _ hY
 have l5 : ((w.alloc (netO n)).alloc (linO L)).cell? ⟨w.heap.size + 1, 5, none⟩ = some (iV L.load) := cell_of_row _ _ 5 _ _ _ hY
 clear hX hY hX2
 go_enter Tryz.func122, Tryz.ntmps122
 go_upto_region 1 with fail
 change Code.wp _ _ _ _ ((w.alloc (netO n)).alloc (linO L))
 generalize ((w.alloc (netO n)).alloc (linO L)) = W0 at *
 go_wp2_with fail
 refine (ixoff_any _ _ _ _ _ HO.out).mono ?_
 rintro e w2 ⟨rfl, rfl⟩
 by_cases h1 : indexB L.frm n.offs.length = true
 case neg =>
  have h1' := Bool.eq_false_iff.2 h1
  have HR : Hid (lineB n L = false) := if_neg (fun h => h1 h.1)
  rw [h1']
  go_wp2_with fail
  go_ret
  exact ⟨ret_bool HR.out.symm, HB.out⟩
 have H1 := Lib.hid h1
 rw [h1]
 clear h1
 go_wp2_with fail
 refine (ixoff_any _ _ _ _ _ HO.out).mono ?_
 rintro e w2 ⟨rfl, rfl⟩
 by_cases h2 : indexB L.to n.offs.length = true
 case neg =>
  have h2' := Bool.eq_false_iff.2 h2
  have HR : Hid (lineB n L = false) := if_neg (fun h => h2 h.2.1)
  rw [h2']
  go_wp2_with fail
  go_ret
  exact ⟨ret_bool HR.out.symm, HB.out⟩
 have H2 := Lib.hid h2
 rw [h2]
 clear h2
 by_cases h3 : L.frm = L.to
 ·have h3' : (L.frm == L.to) = true := by simpa using h3
  have HR : Hid (lineB n L = false) := if_neg (fun h => h.2.2 h3)
  clear h3
  go_wp2_with fail
  go_ret
  exact ⟨ret_bool HR.out.symm, HB.out⟩
 have h3' : (L.frm == L.to) = false := by simpa using h3
 have HR : Hid (lineB n L = (minuteB L.at_ && fromB L.travel 1 5000 && fromB L.load 1 40)) := if_pos ⟨H1.out, H2.out, h3⟩
 clear h3
 go_wp2_with fail
 refine (isminute_any _ _).mono ?_
 rintro e w2 ⟨rfl, rfl⟩
 cases h4 : minuteB L.at_
 ·rw [h4] at HR
  go_wp2_with fail
  go_ret
  exact ⟨ret_bool HR.out.symm, HB.out⟩
 rw [h4] at HR
 clear h4
 go_wp2_with fail
 refine (isfrom_any _ _ _ _).mono ?_
 rintro e w2 ⟨rfl, rfl⟩
 cases h5 : fromB L.travel 1 5000
 ·rw [h5] at HR
  go_wp2_with fail
  go_ret
  exact ⟨ret_bool HR.out.symm, HB.out⟩
 rw [h5] at HR
 clear h5
 go_wp2_with fail
 refine (isfrom_any _ _ _ _).mono ?_
 rintro e w2 ⟨rfl, rfl⟩
 go_wp2_with fail
 go_ret
 exact ⟨ret_bool HR.out.symm, HB.out⟩
theorem wpList_bytes {P : Program} {w : World} {ops : Array Oper} {rest : List Oper} {o : Oper} {a : Act} {Q : Exit -> Act -> World -> Prop} (hgd : o.guard = none) (x : Operand) (src dst e : TypeId)
  (ho : o.op = .convert src dst x) (hs : P.underlying src = some .string) (hd : P.underlying dst = some (.slice e)) (he : P.underlying e = some (.int .u8)) (l : List UInt8) (hx : a.eval x = sV l)
  (h : ∀ A c w', Rd w' A (l.map bV) -> Below w.heap.size w w' -> wpList P ops Q rest (a.put o.dst (.slice A l.length c)) w') : wpList P ops Q (o :: rest) a w := by
 have hr := Lib.run_convert_string_bytes (P := P) w src dst e ⟨l.toArray⟩ hs hd he
 have hz : (ByteArray.mk l.toArray).size = l.length := by simp [ByteArray.size]
 rw [hz] at hr
 refine wpList_plain hgd fun K hK => ?_
 unfold Oper.wp execOp
 simp only [ho, hx, Sem.run_bind, Sem.run_pure, Result.andThen_ok, hr]
 refine hK _ _ (h _ _ _ ?_ ?_)
 ·refine .inr ⟨_, _, rfl, by rw [Lib.bytesWorld_size]; omega, fun i u hu => ?_⟩
  rw [List.getElem?_map] at hu
  cases hi : l[i]? with
  | none => rw [hi] at hu; cases hu
  | some y =>
   rw [hi] at hu
   cases hu
   obtain ⟨hil, rfl⟩ := List.getElem?_eq_some_iff.1 hi
   rw [Nat.zero_add, Lib.bytesWorld_cell _ _ _ _ (by rw [hz]; exact hil)]
   simp [hil]
 ·exact ⟨rfl, rfl, rfl, by rw [Lib.bytesWorld_size]; omega, fun i hi => Lib.bytesWorld_at_old w e _ i hi⟩
def codeC (x : UInt8) : Bool := digitB x || (decide (65 <= x.toNat) && decide (x.toNat <= 90))
def codeB (s : List UInt8) : Bool := decide (1 <= s.length) && decide (s.length <= 8) && s.all codeC
theorem iscode_any (s : List UInt8) (w : World) (hs : s.length <= maxLen) :
  Calls Tryz.prog 164 #[sV s] w fun e w' => e = .returned (.bool (codeB s)) /\ Below w.heap.size w w' := by
 unfold maxLen at hs
 by_cases h1 : 1 <= s.length
 case neg =>
  have i1 : (s.length : Int) < 1 := by omega
  have HR : Hid (codeB s = false) := by show _ = _; unfold codeB; simp only [h1]; rfl
  go_enter Tryz.func164, Tryz.ntmps164
  go_wp2
  go_ret
  exact ⟨ret_bool HR.out.symm, Below.refl _ _⟩
 by_cases h2 : s.length <= 8
 case neg =>
  have i1 : ¬ (s.length : Int) < 1 := by omega
  have i2 : (8 : Int) < (s.length : Int) := by omega
  have HR : Hid (codeB s = false) := by show _ = _; unfold codeB; simp only [h2]; simp
  go_enter Tryz.func164, Tryz.ntmps164
  go_wp2
  go_ret
  exact ⟨ret_bool HR.out.symm, Below.refl _ _⟩
 have i1 : ¬ (s.length : Int) < 1 := by omega
 have i2 : ¬ (8 : Int) < (s.length : Int) := by omega
 have HR : Hid (codeB s = s.all codeC) := by show _ = _; unfold codeB; simp only [h1, h2]; simp
 go_enter Tryz.func164, Tryz.ntmps164
 go_wp2_with (refine wpList_bytes (by rfl) (.tmp 13) 9 187 5 (by rfl) Tryz.underlying9 Tryz.underlying187 Tryz.underlying5 s (by rfl) ?_; intro A5 c5 w5 hr5 hb5; have HR5 := Lib.hid hr5; clear hr5; have HB5 := Lib.hid hb5; clear hb5)
 go_loopw [16] (fun i wr => ∃ k q : Nat, k <= s.length /\ i = iV k /\ wr = w5.drewN q /\ Hid (∀ j x, j < k -> s[j]? = some x -> codeC x = true)) (fun i _ => s.length + 1 - (intOf i).toNat)
 case atStart => exact ⟨0, 0, by omega, rfl, rfl, fun j x h => by omega⟩
 case round =>
  obtain ⟨k, q, hk, rfl, rfl, HQ⟩ := hrel
  have m0 : (0 : Int) <= (k : Int) := by omega
  by_cases hlt : k < s.length
  ·have m1 : (k : Int) < (s.length : Int) := by omega
   have hl : s[k]? = some s[k] := List.getElem?_eq_getElem _
   obtain ⟨rb, ro, hrA, -, hrc⟩ := HR5.out.get (i := k) (by rw [List.length_map]; exact hlt)
   have x2 : w5.cell? ⟨rb, ro + k, none⟩ = some (bV s[k]) := hrc k _ (by simp [hlt])
   generalize s[k] = x at hl x2
   have HL := Lib.hid hl; clear hl hrc
   subst hrA
   have HNO : Hid (codeC x = false -> codeB s = false) := fun h => by
    rw [HR.out, Bool.eq_false_iff]
    intro h2
    have := List.all_eq_true.1 h2 x (List.mem_of_getElem? HL.out)
    rw [h] at this
    cases this
   have HYES : Hid (codeC x = true -> ∀ j y, j < k + 1 -> s[j]? = some y -> codeC y = true) := fun hy j y hj hjy => by
    rcases Nat.lt_or_ge j k with h | h
    ·exact HQ.out j y h hjy
    ·obtain rfl : j = k := by omega
     rw [HL.out] at hjy
     cases hjy
     exact hy
   have hx := x.toNat_lt
   go_wp2_with fail
   refine (isdigit_any _ _).mono ?_
   rintro e w2 ⟨rfl, rfl⟩
   cases hd : digitB x
   ·by_cases h65 : 65 <= x.toNat
    ·by_cases h90 : x.toNat <= 90
     ·have c1 : ¬ (x.toNat : Int) < 65 := by omega
      have c2 : ¬ (90 : Int) < (x.toNat : Int) := by omega
      have HC : Hid (codeC x = true) := by show _ = _; unfold codeC; simp [h65, h90]
      go_wp2
      go_roundw
      case rel => exact ⟨k + 1, _, by omega, by go_num, rfl, HYES.out HC.out⟩
      case measure => simp [intOf]; omega
     ·have c1 : ¬ (x.toNat : Int) < 65 := by omega
      have c2 : (90 : Int) < (x.toNat : Int) := by omega
      have HC : Hid (codeB s = false) := HNO.out (by unfold codeC; simp [hd, h90])
      go_wp2
      go_ret
      exact ⟨ret_bool HC.out.symm, below_drewN HB5.out _⟩
    ·have c1 : (x.toNat : Int) < 65 := by omega
     have HC : Hid (codeB s = false) := HNO.out (by unfold codeC; simp [hd, h65])
     go_wp2
     go_ret
     exact ⟨ret_bool HC.out.symm, below_drewN HB5.out _⟩
   ·have HC : Hid (codeC x = true) := by show _ = _; unfold codeC; simp [hd]
    go_wp2
    go_roundw
    case rel => exact ⟨k + 1, _, by omega, by go_num, rfl, HYES.out HC.out⟩
    case measure => simp [intOf]; omega
  ·have m1 : ¬ (k : Int) < (s.length : Int) := by omega
   have HC : Hid (codeB s = true) := by
    show _ = _
    rw [HR.out, List.all_eq_true]
    intro x hx
    obtain ⟨j, hj, hjx⟩ := List.mem_iff_getElem.1 hx
    exact HQ.out j x (by omega) (by rw [List.getElem?_eq_getElem hj, hjx])
   go_wp2
   go_ret
   exact ⟨ret_bool HC.out.symm, below_drewN HB5.out _⟩
abbrev offO (o : Off) : Obj := .cells #[sV o.name, iV o.op, iV o.cal, iV o.pockets, iV o.passes, iV o.minutes, .slice o.cA o.codes.length o.cc] 54
def officeB (n : Net) (o : Off) : Bool := if indexB o.op n.ops.length = true /\ indexB o.cal n.cals.length = true /\ o.codes.length <= 20 /\ o.codes.all codeB = true then fromB o.pockets 2 64 && fromB o.passes 1 4 && fromB o.minutes 1 240 else false
theorem goodoffice_any (n : Net) (o : Off) (w : World) (ho : OffIn w o) (hn : n.ops.length <= maxLen /\ n.cals.length <= maxLen) :
  Calls Tryz.prog 118 #[netV n, offV o] w fun e w' => e = .returned (.bool (officeB n o)) /\ Below w.heap.size w w' := by
 have HB : Hid (Below w.heap.size w ((w.alloc (netO n)).alloc (offO o))) := (ba w _).alloc (by simp) _
 have HRD := Lib.hid (ho.2.1.below HB.out)
 have HCL := Lib.hid ho.2.2.1
 have hcl := ho.2.2.2
 have HN1 := Lib.hid hn.1
 have HN2 := Lib.hid hn.2
 clear ho hn
 unfold maxLen at hcl
 have hX := heap_alloc_new w (netO n)
 have hY := heap_alloc_new (w.alloc (netO n)) (offO o)
 have hX2 := (Below.heap_alloc (w.alloc (netO n)) (offO o) w.heap.size (by simp)).trans hX
 rw [World.size_alloc] at hY
 have HS : Hid (w.heap.size + 1 < ((w.alloc (netO n)).alloc (offO o)).heap.size) := by show _ < _; simp
 have n0 : ((w.alloc (netO n)).alloc (offO o)).cell? ⟨w.heap.size, 0, none⟩ = some (.slice n.calA n.cals.length n.calC) := cell_of_row _ _ 0 _ _ _ hX2
 have n2 : ((w.alloc (netO n)).alloc (offO o)).cell? ⟨w.heap.size, 2, none⟩ = some (.slice n.opA n.ops.length n.opC) := cell_of_row _ _ 2 _ _ _ hX2
 have l1 : ((w.alloc (netO n)).alloc (offO o)).cell? ⟨w.heap.size + 1, 1, none⟩ = some (iV o.op) := cell_of_row _ _ 1 _ _ _ hY
 have l2 : ((w.alloc (netO n)).alloc (offO o)).cell? ⟨w.heap.size + 1, 2, none⟩ = some (iV o.cal) := cell_of_row _ _ 2 _ _ _ hY
 have l3 : ((w.alloc (netO n)).alloc (offO o)).cell? ⟨w.heap.size + 1, 3, none⟩ = some (iV o.pockets) := cell_of_row _ _ 3 _ _ _ hY
 have l4 : ((w.alloc (netO n)).alloc (offO o)).cell? ⟨w.heap.size + 1, 4, none⟩ = some (iV o.passes) := cell_of_row _ _ 4 _ _ _ hY
 have l5 : ((w.alloc (netO n)).alloc (offO o)).cell? ⟨w.heap.size + 1, 5, none⟩ = some (iV o.minutes) := cell_of_row _ _ 5 _ _ _ hY
 have l6 : ((w.alloc (netO n)).alloc (offO o)).cell? ⟨w.heap.size + 1, 6, none⟩ = some (.slice o.cA o.codes.length o.cc) := cell_of_row _ _ 6 _ _ _ hY
 clear hX hY hX2
 go_enter Tryz.func118, Tryz.ntmps118
 go_upto_region 1 with fail
 change Code.wp _ _ _ _ ((w.alloc (netO n)).alloc (offO o))
 generalize ((w.alloc (netO n)).alloc (offO o)) = W0 at *
 go_wp2_with fail
 refine (ixop_any _ _ _ _ _ HN1.out).mono ?_
 rintro e w2 ⟨rfl, rfl⟩
 by_cases h1 : indexB o.op n.ops.length = true
 case neg =>
  have h1' := Bool.eq_false_iff.2 h1
  have HR : Hid (officeB n o = false) := if_neg (fun h => h1 h.1)
  rw [h1']
  go_wp2_with fail
  go_ret
  exact ⟨ret_bool HR.out.symm, HB.out⟩
 have H1 := Lib.hid h1
 rw [h1]
 clear h1
 go_wp2_with fail
 refine (ixcal_any _ _ _ _ _ HN2.out).mono ?_
 rintro e w2 ⟨rfl, rfl⟩
 by_cases h2 : indexB o.cal n.cals.length = true
 case neg =>
  have h2' := Bool.eq_false_iff.2 h2
  have HR : Hid (officeB n o = false) := if_neg (fun h => h2 h.2.1)
  rw [h2']
  go_wp2_with fail
  go_ret
  exact ⟨ret_bool HR.out.symm, HB.out⟩
 have H2 := Lib.hid h2
 rw [h2]
 clear h2
 by_cases h3 : o.codes.length <= 20
 case neg =>
  have i3 : (20 : Int) < (o.codes.length : Int) := by omega
  have HR : Hid (officeB n o = false) := if_neg (fun h => h3 h.2.2.1)
  clear h3
  go_wp2_with fail
  go_ret
  exact ⟨ret_bool HR.out.symm, HB.out⟩
 have i3 : ¬ (20 : Int) < (o.codes.length : Int) := by omega
 have H3 := Lib.hid h3
 go_wp2_with fail
 go_loopw [30] (fun i wr => ∃ k : Nat, k <= o.codes.length /\ i = iV k /\ Hid (Below W0.heap.size W0 wr) /\ Hid (∀ j x, j < k -> o.codes[j]? = some x -> codeB x = true)) (fun i _ => o.codes.length + 1 - (intOf i).toNat)
 case atStart => exact ⟨0, by omega, rfl, Below.refl _ _, fun j x h => by omega⟩
 case round =>
  obtain ⟨k, hk, rfl, HBW, HQ⟩ := hrel
  have m0 : (0 : Int) <= (k : Int) := by omega
  by_cases hlt : k < o.codes.length
  ·have m1 : (k : Int) < (o.codes.length : Int) := by omega
   have hl : o.codes[k]? = some o.codes[k] := List.getElem?_eq_getElem _
   obtain ⟨rb, ro, hrA, -, hrc⟩ := (HRD.out.below HBW.out).get (i := k) (by rw [List.length_map]; exact hlt)
   have x2 : wr.cell? ⟨rb, ro + k, none⟩ = some (sV o.codes[k]) := hrc k _ (by simp [hlt])
   generalize o.codes[k] = x at hl x2
   have HL := Lib.hid hl; clear hl hrc
   have HXL := Lib.hid (HCL.out x (List.mem_of_getElem? HL.out))
   rw [hrA]
   go_wp2_with fail
   refine (iscode_any x _ HXL.out).mono ?_
   rintro e w2 ⟨rfl, hb⟩
   have HB2 := Lib.hid hb; clear hb
   cases hd : codeB x
   ·have HC : Hid (officeB n o = false) := if_neg (fun h => by
     have := List.all_eq_true.1 h.2.2.2 x (List.mem_of_getElem? HL.out)
     rw [hd] at this
     cases this)
    go_wp2_with fail
    go_ret
    exact ⟨ret_bool HC.out.symm, bt HB.out (bt HBW.out HB2.out)⟩
   ·have HYES : Hid (∀ j y, j < k + 1 -> o.codes[j]? = some y -> codeB y = true) := fun j y hj hjy => by
     rcases Nat.lt_or_ge j k with h | h
     ·exact HQ.out j y h hjy
     ·obtain rfl : j = k := by omega
      rw [HL.out] at hjy
      cases hjy
      exact hd
    clear hd
    go_wp2_with fail
    go_roundw
    case rel => exact ⟨k + 1, by omega, by go_num, bt HBW.out HB2.out, HYES.out⟩
    case measure => simp [intOf]; omega
  ·have m1 : ¬ (k : Int) < (o.codes.length : Int) := by omega
   have HR : Hid (officeB n o = (fromB o.pockets 2 64 && fromB o.passes 1 4 && fromB o.minutes 1 240)) := if_pos ⟨H1.out, H2.out, H3.out, by
    rw [List.all_eq_true]
    intro x hx
    obtain ⟨j, hj, hjx⟩ := List.mem_iff_getElem.1 hx
    exact HQ.out j x (by omega) (by rw [List.getElem?_eq_getElem hj, hjx])⟩
   have p3 := (HBW.out.cell (p := ⟨w.heap.size + 1, 3, none⟩) HS.out).trans l3
   have p4 := (HBW.out.cell (p := ⟨w.heap.size + 1, 4, none⟩) HS.out).trans l4
   have p5 := (HBW.out.cell (p := ⟨w.heap.size + 1, 5, none⟩) HS.out).trans l5
   go_wp2_with fail
   refine (isfrom_any _ _ _ _).mono ?_
   rintro e w2 ⟨rfl, rfl⟩
   cases h4 : fromB o.pockets 2 64
   ·rw [h4] at HR
    go_wp2_with fail
    go_ret
    exact ⟨ret_bool HR.out.symm, bt HB.out HBW.out⟩
   rw [h4] at HR
   clear h4
   go_wp2_with fail
   refine (isfrom_any _ _ _ _).mono ?_
   rintro e w2 ⟨rfl, rfl⟩
   cases h5 : fromB o.passes 1 4
   ·rw [h5] at HR
    go_wp2_with fail
    go_ret
    exact ⟨ret_bool HR.out.symm, bt HB.out HBW.out⟩
   rw [h5] at HR
   clear h5
   go_wp2_with fail
   refine (isfrom_any _ _ _ _).mono ?_
   rintro e w2 ⟨rfl, rfl⟩
   go_wp2_with fail
   go_ret
   exact ⟨ret_bool HR.out.symm, bt HB.out HBW.out⟩
def kwL : List (List UInt8) := [[99, 97, 108, 101, 110, 100, 97, 114], [111, 112, 101, 114, 97, 116, 111, 114], [111, 102, 102, 105, 99, 101], [108, 105, 110, 101], [99, 108, 97, 115, 115], [122, 111, 110, 101], [119, 101, 101, 107], [104, 111, 108, 105, 100, 97, 121], [112, 111, 99, 107, 101, 116, 115], [112, 97, 115, 115, 101, 115], [109, 105, 110, 117, 116, 101, 115], [99, 111, 100, 101, 115], [97, 116], [116, 114, 97, 118, 101, 108], [108, 111, 97, 100], [99, 117, 116], [100, 101, 108, 105, 118, 101, 114]]
def kwA : Array Value := (kwL.map sV).toArray
def KW (w : World) : Prop := ∃ t fr, w.heap[0]? = some (.cells kwA t fr)
theorem KW.below {w w' : World} (h : KW w) (hb : Below w.heap.size w w') : KW w' := by
 obtain ⟨t, fr, h⟩ := h
 exact ⟨t, fr, (hb.block 0 (block_lt h)).trans h⟩
def nameC (x : UInt8) : Bool := smallB x || digitB x || decide (x.toNat = 95)
def nameB (s : List UInt8) : Bool := match s with
 | [] => false
 | x :: t => decide (t.length <= 15) && smallB x && (x :: t).all nameC && !decide ((x :: t) ∈ kwL)
theorem kw_len : kwL.length = 17 := rfl
theorem run_kw_at (k : Nat) (v : Value) (hix : kwA[k]? = some v) (hk : k < 17) (W : World) :
  (Instr.index 212 (.agg kwA) (iV k)).run Tryz.prog W = .ok v W := by
 have hv : v = kwA.getD k undef := by rw [Array.getD_eq_getD_getElem?, hix]; rfl
 subst hv
 clear hix
 rcases (by omega : k = 0 ∨ k = 1 ∨ k = 2 ∨ k = 3 ∨ k = 4 ∨ k = 5 ∨ k = 6 ∨ k = 7 ∨ k = 8 ∨ k = 9 ∨ k = 10 ∨ k = 11 ∨ k = 12 ∨ k = 13 ∨ k = 14 ∨ k = 15 ∨ k = 16) with rfl | rfl | rfl | rfl | rfl | rfl | rfl | rfl | rfl | rfl | rfl | rfl | rfl | rfl | rfl | rfl | rfl <;> (show _ = _; kernel_rfl)
theorem isname_any (s : List UInt8) (w : World) (hs : s.length <= maxLen) (hk : KW w) :
  Calls Tryz.prog 153 #[sV s] w fun e w' => e = .returned (.bool (nameB s)) /\ Below w.heap.size w w' := by
 unfold maxLen at hs
 have HK := Lib.hid hk; clear hk
 cases s with
 | nil =>
  go_enter Tryz.func153, Tryz.ntmps153
  go_wp2
  go_ret
  exact ⟨rfl, Below.refl _ _⟩
 | cons y t =>
  by_cases h2 : t.length <= 15
  case neg =>
   have i1 : ¬ ((t.length : Int) + 1 < 1) := by omega
   have i2 : (16 : Int) < (t.length : Int) + 1 := by omega
   have HR : Hid (nameB (y :: t) = false) := by show _ = _; unfold nameB; simp only [h2]; simp
   go_enter Tryz.func153, Tryz.ntmps153
   go_wp2
   go_ret
   exact ⟨ret_bool HR.out.symm, Below.refl _ _⟩
  have i1 : ¬ ((t.length : Int) + 1 < 1) := by omega
  have i2 : ¬ (16 : Int) < (t.length : Int) + 1 := by omega
  go_enter Tryz.func153, Tryz.ntmps153
  go_wp2_with fail
  refine (issmall_any y _).mono ?_
  rintro e w2 ⟨rfl, rfl⟩
  cases hy : smallB y
  ·have HR : Hid (nameB (y :: t) = false) := by show _ = _; unfold nameB; simp [hy]
   go_wp2_with fail
   go_ret
   exact ⟨ret_bool HR.out.symm, Below.refl _ _⟩
  have HR : Hid (nameB (y :: t) = ((y :: t).all nameC && !decide ((y :: t) ∈ kwL))) := by show _ = _; unfold nameB; simp only [h2, hy]; simp
  have hlen : ((t.length : Int) + 1) = ((y :: t).length : Int) := by simp
  have hs' : (y :: t).length <= 16 := by simp; omega
  clear hy h2 i1 i2
  have hz : (ByteArray.mk (y :: t).toArray).size = (y :: t).length := by simp [ByteArray.size]
  generalize (ByteArray.mk (y :: t).toArray)[0]'(by simp [ByteArray.size]) = v17
  rw [hlen]
  clear hlen
  generalize hst : y :: t = s at *
  have HST := Lib.hid hst; clear hst
  go_wp2_with (refine wpList_bytes (by rfl) (.tmp 21) 9 187 5 (by rfl) Tryz.underlying9 Tryz.underlying187 Tryz.underlying5 s (by rfl) ?_; intro A5 c5 w5 hr5 hb5; have HR5 := Lib.hid hr5; clear hr5; have HB5 := Lib.hid hb5; clear hb5)
  go_loopw [24] (fun i wr => ∃ k q : Nat, k <= s.length /\ i = iV k /\ wr = w5.drewN q /\ Hid (∀ j x, j < k -> s[j]? = some x -> nameC x = true)) (fun i _ => s.length + 1 - (intOf i).toNat)
  case atStart => exact ⟨0, 0, by omega, rfl, rfl, fun j x h => by omega⟩
  case round =>
   obtain ⟨k, q, hk, rfl, rfl, HQ⟩ := hrel
   have m0 : (0 : Int) <= (k : Int) := by omega
   by_cases hlt : k < s.length
   ·have m1 : (k : Int) < (s.length : Int) := by omega
    have hl : s[k]? = some s[k] := List.getElem?_eq_getElem _
    obtain ⟨rb, ro, hrA, -, hrc⟩ := HR5.out.get (i := k) (by rw [List.length_map]; exact hlt)
    have x2 : w5.cell? ⟨rb, ro + k, none⟩ = some (bV s[k]) := hrc k _ (by simp [hlt])
    generalize s[k] = x at hl x2
    have HL := Lib.hid hl; clear hl hrc
    subst hrA
    have HNO : Hid (nameC x = false -> nameB s = false) := fun h => by
     rw [HR.out, Bool.and_eq_false_iff]
     left
     rw [Bool.eq_false_iff]
     intro h2
     have := List.all_eq_true.1 h2 x (List.mem_of_getElem? HL.out)
     rw [h] at this
     cases this
    have HYES : Hid (nameC x = true -> ∀ j y, j < k + 1 -> s[j]? = some y -> nameC y = true) := fun hy j y hj hjy => by
     rcases Nat.lt_or_ge j k with h | h
     ·exact HQ.out j y h hjy
     ·obtain rfl : j = k := by omega
      rw [HL.out] at hjy
      cases hjy
      exact hy
    have hx := x.toNat_lt
    go_wp2_with fail
    refine (issmall_any _ _).mono ?_
    rintro e w2 ⟨rfl, rfl⟩
    cases hsm : smallB x
    case true =>
     have HC : Hid (nameC x = true) := by show _ = _; unfold nameC; simp [hsm]
     go_wp2_with fail
     go_roundw
     case rel => exact ⟨k + 1, _, by omega, by go_num, rfl, HYES.out HC.out⟩
     case measure => simp [intOf]; omega
    go_wp2_with fail
    refine (isdigit_any _ _).mono ?_
    rintro e w2 ⟨rfl, rfl⟩
    cases hd : digitB x
    case true =>
     have HC : Hid (nameC x = true) := by show _ = _; unfold nameC; simp [hd]
     go_wp2_with fail
     go_roundw
     case rel => exact ⟨k + 1, _, by omega, by go_num, rfl, HYES.out HC.out⟩
     case measure => simp [intOf]; omega
    by_cases h95 : x.toNat = 95
    ·have c1 : ((x.toNat : Int) != 95) = false := by simp; omega
     have c2 : ((x.toNat : Int) == 95) = true := by simp; omega
     have HC : Hid (nameC x = true) := by show _ = _; unfold nameC; simp [h95]
     clear h95
     go_wp2_with fail
     go_roundw
     case rel => exact ⟨k + 1, _, by omega, by go_num, rfl, HYES.out HC.out⟩
     case measure => simp [intOf]; omega
    ·have c1 : ((x.toNat : Int) != 95) = true := by simp; omega
     have c2 : ((x.toNat : Int) == 95) = false := by simp; omega
     have HC : Hid (nameB s = false) := HNO.out (by unfold nameC; simp [hsm, hd, h95])
     clear h95
     go_wp2_with fail
     go_ret
     exact ⟨ret_bool (by rw [HST.out]; exact HC.out.symm), below_drewN HB5.out _⟩
   ·have m1 : ¬ (k : Int) < (s.length : Int) := by omega
    have HC : Hid (nameB s = !decide (s ∈ kwL)) := by
     show _ = _
     have : s.all nameC = true := by
      rw [List.all_eq_true]
      intro x hx
      obtain ⟨j, hj, hjx⟩ := List.mem_iff_getElem.1 hx
      exact HQ.out j x (by omega) (by rw [List.getElem?_eq_getElem hj, hjx])
     rw [HR.out, this]
     rfl
    obtain ⟨kt, kfr, hkr⟩ := HK.out.below (below_drewN HB5.out q)
    have HKR := Lib.hid hkr; clear hkr
    go_wp2_with (refine wpList_load_row (by rfl) 212 (.global 0) (by rfl) 0 (by rfl) kt kwA kfr _ HKR.out Tryz.underlying212 (by rfl) (by kernel_rfl) ?_)
    go_loopw [42] (fun i wr => ∃ k p : Nat, k <= 17 /\ i = iV k /\ wr = w5.drewN p /\ Hid (∀ j x, j < k -> kwL[j]? = some x -> s ≠ x)) (fun i _ => 18 - (intOf i).toNat)
    case atStart => exact ⟨0, _, by omega, rfl, rfl, fun j x h => by omega⟩
    case round =>
     obtain ⟨k, p, hk2, rfl, rfl, HW⟩ := hrel
     have m0 : (0 : Int) <= (k : Int) := by omega
     by_cases hlt : k < 17
     ·have m1' : (k : Int) < 17 := by omega
      obtain ⟨x, hx⟩ : ∃ x, kwL[k]? = some x := ⟨kwL[k]'(by rw [kw_len]; exact hlt), List.getElem?_eq_getElem _⟩
      have hix : kwA[k]? = some (sV x) := by unfold kwA; simp [hx]
      have hrun : ∀ W : World, (Instr.index 212 (.agg kwA) (iV k)).run Tryz.prog W = .ok (sV x) W := fun W => run_kw_at k _ hix (by omega) W
      have HX := Lib.hid hx; clear hx
      go_upto_region 12 with fail
      clear hrun
      cases hsx : s == x
      ·have HN : Hid (∀ j x, j < k + 1 -> kwL[j]? = some x -> s ≠ x) := fun j z hj hz => by
        rcases Nat.lt_or_ge j k with h | h
        ·exact HW.out j z h hz
        ·obtain rfl : j = k := by omega
         rw [HX.out] at hz
         cases hz
         simpa using hsx
       go_wp2_with fail
       go_roundw
       case rel => exact ⟨k + 1, _, by omega, by go_num, rfl, HN.out⟩
       case measure => simp [intOf]; omega
      ·have HF : Hid (nameB s = false) := by
        show _ = _
        rw [HC.out]
        have h1 : s = x := by simpa using hsx
        have h2 : s ∈ kwL := h1 ▸ List.mem_of_getElem? HX.out
        simp [h2]
       go_wp2_with fail
       go_ret
       exact ⟨ret_bool (by rw [HST.out]; exact HF.out.symm), below_drewN HB5.out _⟩
     ·have m1' : ¬ (k : Int) < 17 := by omega
      have HF : Hid (nameB s = true) := by
       show _ = _
       rw [HC.out]
       have : s ∉ kwL := fun h => by
        obtain ⟨j, hj, hjx⟩ := List.mem_iff_getElem.1 h
        exact HW.out j s (by rw [kw_len] at hj; omega) (by rw [List.getElem?_eq_getElem hj, hjx]) rfl
       simp [this]
      go_wp2_with fail
      go_ret
      exact ⟨ret_bool (by rw [HST.out]; exact HF.out.symm), below_drewN HB5.out _⟩
def NameF (f : FuncId) (cb : Array Value) (nm : Nat -> List UInt8) (cnt : Nat) (w : World) : Prop :=
 ∀ i < cnt, ∀ w', Below w.heap.size w w' -> Calls Tryz.prog f (#[iV i] ++ cb) w' fun e w2 => e = .returned (sV (nm i)) /\ Below w'.heap.size w' w2
theorem NameF.below {f : FuncId} {cb : Array Value} {nm : Nat -> List UInt8} {cnt : Nat} {w w1 : World} (h : NameF f cb nm cnt w) (hb : Below w.heap.size w w1) : NameF f cb nm cnt w1 :=
 fun i hi w' hb' => h i hi w' (bt hb hb')
def ruleV : Bool -> Int
 | true => 0
 | false => 1
theorem rule1_cal (f : FuncId) (cb : Array Value) (nm : Nat -> List UInt8) (cnt i P : Nat) (w : World) (hf : NameF f cb nm cnt w) (hk : KW w) (hi : i < cnt) (hm : (nm i).length <= maxLen) (hp : w.cell? ⟨P, 0, none⟩ = some (.func (.func f) #[] cb)) (eg : ∀ args w, (callFunc f args).run Tryz.prog w = .ok (.enter f args) w) :
  Calls Tryz.prog 152 #[iV i, .pointer (some ⟨P, 0, none⟩)] w fun e w' => e = .returned (iV (ruleV (nameB (nm i)))) /\ Below w.heap.size w w' := by
 have HF := Lib.hid hf; clear hf
 have HK := Lib.hid hk; clear hk
 go_enter Tryz.func152, Tryz.ntmps152
 go_wp2_with fail
 refine (HF.out i hi _ (Below.refl _ _)).mono ?_
 rintro e w2 ⟨rfl, hb⟩
 have HB := Lib.hid hb; clear hb
 go_wp2_with fail
 refine (isname_any _ _ hm (HK.out.below HB.out)).mono ?_
 rintro e w3 ⟨rfl, hb⟩
 have HB2 := Lib.hid hb; clear hb
 have HX : Hid (Below w.heap.size w w3) := bt HB.out HB2.out
 cases h : nameB (nm i)
 case false =>
  go_wp2_with fail
  all_goals go_ret
  all_goals exact ⟨by rw [h]; rfl, HX.out⟩
 case true =>
  go_wp2_with fail
  all_goals go_ret
  all_goals exact ⟨by rw [h]; rfl, HX.out⟩
theorem rule1_op (f : FuncId) (cb : Array Value) (nm : Nat -> List UInt8) (cnt i P : Nat) (w : World) (hf : NameF f cb nm cnt w) (hk : KW w) (hi : i < cnt) (hm : (nm i).length <= maxLen) (hp : w.cell? ⟨P, 0, none⟩ = some (.func (.func f) #[] cb)) (eg : ∀ args w, (callFunc f args).run Tryz.prog w = .ok (.enter f args) w) :
  Calls Tryz.prog 156 #[iV i, .pointer (some ⟨P, 0, none⟩)] w fun e w' => e = .returned (iV (ruleV (nameB (nm i)))) /\ Below w.heap.size w w' := by
 have HF := Lib.hid hf; clear hf
 have HK := Lib.hid hk; clear hk
 go_enter Tryz.func156, Tryz.ntmps156
 go_wp2_with fail
 refine (HF.out i hi _ (Below.refl _ _)).mono ?_
 rintro e w2 ⟨rfl, hb⟩
 have HB := Lib.hid hb; clear hb
 go_wp2_with fail
 refine (isname_any _ _ hm (HK.out.below HB.out)).mono ?_
 rintro e w3 ⟨rfl, hb⟩
 have HB2 := Lib.hid hb; clear hb
 have HX : Hid (Below w.heap.size w w3) := bt HB.out HB2.out
 cases h : nameB (nm i)
 case false =>
  go_wp2_with fail
  all_goals go_ret
  all_goals exact ⟨by rw [h]; rfl, HX.out⟩
 case true =>
  go_wp2_with fail
  all_goals go_ret
  all_goals exact ⟨by rw [h]; rfl, HX.out⟩
theorem rule1_off (f : FuncId) (cb : Array Value) (nm : Nat -> List UInt8) (cnt i P : Nat) (w : World) (hf : NameF f cb nm cnt w) (hk : KW w) (hi : i < cnt) (hm : (nm i).length <= maxLen) (hp : w.cell? ⟨P, 0, none⟩ = some (.func (.func f) #[] cb)) (eg : ∀ args w, (callFunc f args).run Tryz.prog w = .ok (.enter f args) w) :
  Calls Tryz.prog 159 #[iV i, .pointer (some ⟨P, 0, none⟩)] w fun e w' => e = .returned (iV (ruleV (nameB (nm i)))) /\ Below w.heap.size w w' := by
 have HF := Lib.hid hf; clear hf
 have HK := Lib.hid hk; clear hk
 go_enter Tryz.func159, Tryz.ntmps159
 go_wp2_with fail
 refine (HF.out i hi _ (Below.refl _ _)).mono ?_
 rintro e w2 ⟨rfl, hb⟩
 have HB := Lib.hid hb; clear hb
 go_wp2_with fail
 refine (isname_any _ _ hm (HK.out.below HB.out)).mono ?_
 rintro e w3 ⟨rfl, hb⟩
 have HB2 := Lib.hid hb; clear hb
 have HX : Hid (Below w.heap.size w w3) := bt HB.out HB2.out
 cases h : nameB (nm i)
 case false =>
  go_wp2_with fail
  all_goals go_ret
  all_goals exact ⟨by rw [h]; rfl, HX.out⟩
 case true =>
  go_wp2_with fail
  all_goals go_ret
  all_goals exact ⟨by rw [h]; rfl, HX.out⟩
theorem rule1_lin (f : FuncId) (cb : Array Value) (nm : Nat -> List UInt8) (cnt i P : Nat) (w : World) (hf : NameF f cb nm cnt w) (hk : KW w) (hi : i < cnt) (hm : (nm i).length <= maxLen) (hp : w.cell? ⟨P, 0, none⟩ = some (.func (.func f) #[] cb)) (eg : ∀ args w, (callFunc f args).run Tryz.prog w = .ok (.enter f args) w) :
  Calls Tryz.prog 166 #[iV i, .pointer (some ⟨P, 0, none⟩)] w fun e w' => e = .returned (iV (ruleV (nameB (nm i)))) /\ Below w.heap.size w w' := by
 have HF := Lib.hid hf; clear hf
 have HK := Lib.hid hk; clear hk
 go_enter Tryz.func166, Tryz.ntmps166
 go_wp2_with fail
 refine (HF.out i hi _ (Below.refl _ _)).mono ?_
 rintro e w2 ⟨rfl, hb⟩
 have HB := Lib.hid hb; clear hb
 go_wp2_with fail
 refine (isname_any _ _ hm (HK.out.below HB.out)).mono ?_
 rintro e w3 ⟨rfl, hb⟩
 have HB2 := Lib.hid hb; clear hb
 have HX : Hid (Below w.heap.size w w3) := bt HB.out HB2.out
 cases h : nameB (nm i)
 case false =>
  go_wp2_with fail
  all_goals go_ret
  all_goals exact ⟨by rw [h]; rfl, HX.out⟩
 case true =>
  go_wp2_with fail
  all_goals go_ret
  all_goals exact ⟨by rw [h]; rfl, HX.out⟩
theorem rule1_cls (f : FuncId) (cb : Array Value) (nm : Nat -> List UInt8) (cnt i P : Nat) (w : World) (hf : NameF f cb nm cnt w) (hk : KW w) (hi : i < cnt) (hm : (nm i).length <= maxLen) (hp : w.cell? ⟨P, 0, none⟩ = some (.func (.func f) #[] cb)) (eg : ∀ args w, (callFunc f args).run Tryz.prog w = .ok (.enter f args) w) :
  Calls Tryz.prog 170 #[iV i, .pointer (some ⟨P, 0, none⟩)] w fun e w' => e = .returned (iV (ruleV (nameB (nm i)))) /\ Below w.heap.size w w' := by
 have HF := Lib.hid hf; clear hf
 have HK := Lib.hid hk; clear hk
 go_enter Tryz.func170, Tryz.ntmps170
 go_wp2_with fail
 refine (HF.out i hi _ (Below.refl _ _)).mono ?_
 rintro e w2 ⟨rfl, hb⟩
 have HB := Lib.hid hb; clear hb
 go_wp2_with fail
 refine (isname_any _ _ hm (HK.out.below HB.out)).mono ?_
 rintro e w3 ⟨rfl, hb⟩
 have HB2 := Lib.hid hb; clear hb
 have HX : Hid (Below w.heap.size w w3) := bt HB.out HB2.out
 cases h : nameB (nm i)
 case false =>
  go_wp2_with fail
  all_goals go_ret
  all_goals exact ⟨by rw [h]; rfl, HX.out⟩
 case true =>
  go_wp2_with fail
  all_goals go_ret
  all_goals exact ⟨by rw [h]; rfl, HX.out⟩
end Go.Proofs.YtpeaiphdkgifaaaGreatDoor
