/-
  What holds of items all the time, in plain Lean. The walks over the reference's decimal digits and seals.
-/
import Derived.Test.YtpeaiphdkgifaaaGreatDoorWbp
import Derived.Test.YtpeaiphdkgifaaaGreatDoorWba
import Derived.Test.YtpeaiphdkgifaaaGreatDoorWbh
namespace Go.Proofs.YtpeaiphdkgifaaaGreatDoor
open Go.RowKit
set_option maxHeartbeats 20000000
set_option maxRecDepth 100000
theorem path_last {n : Net} : ∀ {l : List St} {es : List (List UInt8)}, PathOk n l es -> (lastSt l).depart = -1 /\ (lastSt l).line = -1
 | [_], [], h => h
 | _ :: b :: l, _ :: es, h => by
  have := path_last h.2
  simpa [lastSt] using this
theorem path_get {n : Net} : ∀ {l : List St} {es : List (List UInt8)} {m : Nat} {a b : St}, PathOk n l es -> l[m]? = some a -> l[m + 1]? = some b -> ∃ e, es[m]? = some e /\ Hop n a b e
 | [_], [], m, a, b, h, h1, h2 => by simp at h2
 | x :: y :: l, e :: es, 0, a, b, h, h1, h2 => by
  simp at h1 h2
  subst h1 h2
  exact ⟨e, rfl, h.1⟩
 | x :: y :: l, e :: es, m + 1, a, b, h, h1, h2 => by
  simp only [List.getElem?_cons_succ] at h1 h2 ⊢
  exact path_get h.2 h1 h2
section
attribute [local go_sem] ba_append Oper.semAt_some
theorem enc_dig {d : Nat} (h : d < 10) : Utf8.encode (48 + (d : Int)) = ⟨[UInt8.ofNat (48 + d)].toArray⟩ := by
 have h1 : d = 0 ∨ d = 1 ∨ d = 2 ∨ d = 3 ∨ d = 4 ∨ d = 5 ∨ d = 6 ∨ d = 7 ∨ d = 8 ∨ d = 9 := by omega
 rcases h1 with rfl | rfl | rfl | rfl | rfl | rfl | rfl | rfl | rfl | rfl <;> rfl
theorem dec_len {u : Nat} (h : (u : Int) <= 9223372036854775807) : (Lib.decDigits u).length <= 100 := by
 have h1 := itoa_short (u : Int) (by unfold I64; omega)
 unfold Lib.itoa at h1
 rw [if_neg (by omega), Int.toNat_natCast] at h1
 exact h1
theorem enc_mod (u : Nat) : Utf8.encode (48 + (u : Int) % 10) = ⟨[UInt8.ofNat (48 + u % 10)].toArray⟩ := by
 rw [<- enc_dig (Nat.mod_lt u (by decide))]
 congr 1
theorem decimal_any (u : Nat) : ∀ (w : World), (u : Int) <= 9223372036854775807 -> Calls Tryz.prog 43 #[iV u] w fun e w' => e = .returned (sV (Lib.decDigits u)) /\ w' = w := by
 induction u using Nat.strongRecOn with
 | _ u ih =>
 intro w hu
 have h0 : (0 : Int) <= (u : Int) := by omega
 by_cases hs : u < 10
 ·have h1 : ¬ (9 : Int) < (u : Int) := by omega
  have HE : Hid (Lib.decDigits u = [UInt8.ofNat (48 + u % 10)]) := by
   show _ = _
   rw [Lib.decDigits, dif_pos hs, Nat.mod_eq_of_lt hs]
  clear ih hs
  go_enter Tryz.func43, Tryz.ntmps43
  go_wp2_with fail
  go_ret
  refine ⟨?_, rfl⟩
  rw [HE.out]
  show Ending.returned (.string (Utf8.encode (48 + (u : Int) % 10))) = _
  rw [enc_mod]
 ·have h1 : (9 : Int) < (u : Int) := by omega
  have HE : Hid (Lib.decDigits u = Lib.decDigits (u / 10) ++ [UInt8.ofNat (48 + u % 10)]) := by
   show _ = _
   rw [Lib.decDigits, dif_neg hs]
  have hd : ((u : Int) / 10) = ((u / 10 : Nat) : Int) := by omega
  have HC := Lib.hid (ih (u / 10) (by omega) w (by omega))
  have HD := Lib.hid hd
  clear ih hs hd
  go_enter Tryz.func43, Tryz.ntmps43
  go_wp2_with fail
  rw [HD.out]
  refine HC.out.mono ?_
  rintro e w' ⟨rfl, rfl⟩
  rw [enc_mod]
  have lz := dec_len (u := u / 10) (by omega)
  have lz1 : ¬ 9223372036854775807 < (Lib.decDigits (u / 10)).length + 1 := by omega
  clear lz
  go_wp2_with fail
  go_ret
  refine ⟨?_, rfl⟩
  rw [HE.out, show UInt8.ofNat (48 + u % 10) = 48 + UInt8.ofNat (u % 10) by simp]
  rfl
theorem seal_any (l t : Int) (w : World) (hl : 0 <= l /\ l <= 9223372036854775807) (ht : 0 <= t /\ t <= 9223372036854775807) : Calls Tryz.prog 14 #[iV l, iV t] w fun e w' => e = .returned (sV (sealB l t)) /\ w' = w := by
 obtain ⟨a, rfl⟩ := Int.eq_ofNat_of_zero_le hl.1
 obtain ⟨b, rfl⟩ := Int.eq_ofNat_of_zero_le ht.1
 have HA := Lib.hid (decimal_any a w (by omega))
 have HB := Lib.hid (decimal_any b w (by omega))
 have HE : Hid (sealB (a : Int) (b : Int) = 67 :: (Lib.decDigits a ++ 46 :: Lib.decDigits b)) := by
  show _ = _
  unfold sealB Lib.itoa
  rw [if_neg (by omega), if_neg (by omega), Int.toNat_natCast, Int.toNat_natCast]
 have la := dec_len hl.2
 have lb := dec_len ht.2
 have lz1 : ¬ 9223372036854775807 < 1 + (Lib.decDigits a).length := by omega
 have lz2 : ¬ 9223372036854775807 < (Lib.decDigits a).length + 1 + 1 := by omega
 have lz3 : ¬ 9223372036854775807 < (Lib.decDigits a).length + 1 + 1 + (Lib.decDigits b).length := by omega
 clear hl ht la lb
 go_enter Tryz.func14, Tryz.ntmps14
 go_wp2_with fail
 refine HA.out.mono ?_
 rintro e w' ⟨rfl, rfl⟩
 go_wp2_with fail
 refine HB.out.mono ?_
 rintro e w' ⟨rfl, rfl⟩
 go_wp2_with fail
 go_ret
 refine ⟨?_, rfl⟩
 rw [HE.out]
 rfl
end
end Go.Proofs.YtpeaiphdkgifaaaGreatDoor
