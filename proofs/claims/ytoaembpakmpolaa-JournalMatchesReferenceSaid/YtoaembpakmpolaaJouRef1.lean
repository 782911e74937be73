/-
  The walks over the reference of the journal: bytes of numbers, lengths, texts.
-/
import Derived.Test.YtoaembpakmpolaaJouOpenLog
import Derived.IntWalk
import Derived.Lib.ConvBytes
namespace Go.Proofs.Ytoaembpakmpolaa
open Go.RowKit Jou
attribute [local go_sem] ba_get ba_extract ba_append

/-- Bytes that a call hands back in a row of its own. -/
def OwnB (w : World) (l : List UInt8) (e : Ending) (w' : World) : Prop :=
  ∃ A c, e = .returned (.slice A l.length c) ∧ w'.ownsRow w.heap.size 5 1 (.slice A l.length c) l.length (l.map bV) ∧ Below w.heap.size w w'
theorem byte_shift (n : Int) (k : Nat) (_hn : I64 n) (hk : k ≤ 7) : n / 2 ^ (8 * k) % 256 = ((byteAt (ofI n) k).toNat : Int) := by
  unfold byteAt ofI
  rw [UInt8.toNat_ofNat']
  rcases (by omega : k = 0 ∨ k = 1 ∨ k = 2 ∨ k = 3 ∨ k = 4 ∨ k = 5 ∨ k = 6 ∨ k = 7) with rfl | rfl | rfl | rfl | rfl | rfl | rfl | rfl <;> simp <;> omega
set_option maxHeartbeats 1000000 in
theorem byteOf_any (n : Int) (k : Nat) (w : World) (hn : I64 n) (hk : k ≤ 7) :
    Calls Try.prog 70 #[iV n, iV k] w fun e w' => e = .returned (bV (byteAt (ofI n) k)) ∧ w = w' := by
  have HS := Lib.hid (byte_shift n k hn hk)
  obtain ⟨h1, h2⟩ := hn
  go_enter Try.func70, Try.ntmps70
  go_wp2
  go_ret
  refine ⟨?_, rfl⟩
  show Ending.returned (.int .u8 (n / 2 ^ (8 * k) % 256)) = _
  rw [HS.out]
theorem app_below {B base : Nat} {w wr w4 : World} {e : TypeId} {v : Value} {n : Nat} {xs : List Value} (HB : Below B w wr) (hB : B ≤ w.heap.size) (HO : wr.ownsRow base e 1 v n xs) (hb : B ≤ base) (HG : wr.grownBy w4 v.ownBlock) : Below B w w4 :=
  ⟨HG.os.trans HB.os, HG.tape.trans HB.tape, HG.output.trans HB.output, Nat.le_trans HB.size HG.size, fun i hi => (HG.block i (Nat.lt_of_lt_of_le (Nat.lt_of_lt_of_le hi hB) HB.size) (fun e => by have := (HO.lt i e.symm).1; omega)).trans (HB.block i hi)⟩
theorem own_new (w : World) (l : List UInt8) (hl : l.length ≤ maxLen) : (w.alloc (.cells (l.map bV).toArray 5)).ownsRow w.heap.size 5 1 (.slice (some ⟨w.heap.size, 0, none⟩) l.length l.length) l.length (l.map bV) :=
  ⟨by simp, .inr ⟨w.heap.size, l.length, _, rfl, Nat.le_refl _, heap_alloc_new _ _, Nat.le_refl _, hl, by simp, by
    simp only [Nat.mul_one]
    first | exact List.take_of_length_le (Nat.le_of_eq (List.length_map _)) | exact (List.take_of_length_le (Nat.le_of_eq (List.length_map _))).symm⟩⟩
theorem numB_take (n : Int) (j : Nat) (hj : j < 8) : (numB n).take (j + 1) = (numB n).take j ++ [byteAt (ofI n) (7 - j)] := by
  rcases (by omega : j = 0 ∨ j = 1 ∨ j = 2 ∨ j = 3 ∨ j = 4 ∨ j = 5 ∨ j = 6 ∨ j = 7) with rfl | rfl | rfl | rfl | rfl | rfl | rfl | rfl <;> rfl
theorem numB_take_len (n : Int) (j : Nat) (hj : j ≤ 8) : ((numB n).take j).length = j := by
  rw [List.length_take]; show min j 8 = j; omega
set_option maxHeartbeats 2000000 in
set_option maxRecDepth 100000 in
theorem fnumber_any (n : Int) (w : World) (hn : I64 n) :
    Calls Try.prog 49 #[iV n] w (OwnB w (numB n)) := by
  obtain ⟨i0, hi0, hz0, hz1, hz2⟩ := info_parts byteInf
  have HN := Lib.hid hn; clear hn
  go_enter Try.func49, Try.ntmps49
  go_wp2
  go_loopg [3, 4] 8 (fun g v i wr => ∃ j : Nat, j + g = 8 ∧ i = iV (7 - (j : Int)) ∧ Hid (wr.ownsRow w.heap.size 5 1 v j (((numB n).take j).map bV)) ∧ Hid (Below w.heap.size w wr))
  case atStart => exact ⟨0, by omega, by simp, own_new w [] (by decide), ba w _⟩
  case round =>
    obtain ⟨j, hj, rfl, HO, HB⟩ := hrel
    obtain ⟨A2, c2, rfl⟩ := own_form HO.out
    cases gk with
    | zero =>
      obtain rfl : j = 8 := by omega
      go_wp2
      go_ret
      exact ⟨A2, c2, rfl, HO.out, HB.out⟩
    | succ g1 =>
      have hj0 : (0 : Int) ≤ 7 - (j : Int) := by omega
      have CB := byteOf_any n (7 - j) wr HN.out (by omega)
      rw [show (((7 - j : Nat) : Int)) = 7 - (j : Int) by omega] at CB
      have CB := Lib.hid CB
      go_wp2_with (first
        | (go_at_call 70; refine CB.out.mono ?_; rintro e w3 ⟨rfl, rfl⟩)
        | (at_builtin; refine wpList_app (by rfl) _ _ _ _ (by rfl) w.heap.size 5 i0 _ 1 1 Try.underlying38 hi0 hz0 hz1 hz2 (by rfl) _ j _ (by rfl) (HO.out.alloc _) _ (by rfl) 1 ([byteAt (ofI n) (7 - j)].map bV) (src_rd Try.underlying38 (Rd.new wr _ _) (by rfl) (one_b _)) (by unfold maxLen; omega) (by omega) (by have := HB.out.size; simp; omega) ?_; intro A4 c4 w4 hown4 hgrow4 _; have HO4 := Lib.hid hown4; clear hown4; have HG4 := Lib.hid hgrow4; clear hgrow4))
      go_roundg g1
      case measure => omega
      case rel =>
        refine ⟨j + 1, by omega, by go_num, ?_, ?_⟩
        · show World.ownsRow _ _ _ _ _ _ _
          rw [numB_take n j (by omega), List.map_append]; exact HO4.out
        · exact app_below (HB.out.trans (ba wr _ |>.mono HB.out.size)) (Nat.le_refl _) (HO.out.alloc _) (Nat.le_refl _) HG4.out
set_option maxHeartbeats 1000000 in
theorem flength_any (n : Nat) (w : World) (hn : n ≤ maxLen) :
    Calls Try.prog 67 #[iV n] w (OwnB w (lenB n)) := by
  unfold maxLen at hn
  have h1 : ((n : Int) / 256) % 256 = ((UInt8.ofNat (n / 256)).toNat : Int) := by rw [UInt8.toNat_ofNat']; omega
  have h2 : (n : Int) % 256 = ((UInt8.ofNat n).toNat : Int) := by rw [UInt8.toNat_ofNat']; omega
  have H1 := Lib.hid h1; clear h1
  have H2 := Lib.hid h2; clear h2
  have HO := Lib.hid (own_new w (lenB n) (by show 2 ≤ maxLen; decide))
  go_enter Try.func67, Try.ntmps67
  go_wp2
  go_ret
  refine ⟨some ⟨w.heap.size, 0, none⟩, 2, rfl, ?_, ba _ _⟩
  have := HO.out
  simp only [lenB, List.map_cons, List.map_nil, bV, ← H1.out, ← H2.out] at this ⊢
  exact this
theorem numsB_take (ns : List Int) (k : Nat) (h : k < ns.length) : numsB (ns.take (k + 1)) = numsB (ns.take k) ++ numB ns[k] := by
  unfold numsB
  rw [List.take_succ_eq_append_getElem h, List.flatMap_append]
  simp only [List.flatMap_cons, List.flatMap_nil, List.append_nil]
theorem numsB_len (ns : List Int) : (numsB ns).length = 8 * ns.length := by
  induction ns with
  | nil => rfl
  | cons n ns ih =>
    have e : numsB (n :: ns) = numB n ++ numsB ns := by simp [numsB]
    rw [e, List.length_append, ih, List.length_cons]
    show 8 + _ = _
    omega
set_option maxHeartbeats 2000000 in
set_option maxRecDepth 100000 in
theorem fnumbers_any (ns : List Int) (A : Option Addr) (c : Nat) (w : World) (hA : Rd w A (ns.map iV)) (hn : ∀ n ∈ ns, I64 n) (hl : ns.length ≤ 100000) :
    Calls Try.prog 54 #[.slice A ns.length c] w (OwnB w (numsB ns)) := by
  obtain ⟨i0, hi0, hz0, hz1, hz2⟩ := info_parts byteInf
  have HN := Lib.hid hn; clear hn
  have HA := Lib.hid hA; clear hA
  go_enter Try.func54, Try.ntmps54
  go_wp2
  go_loopw [3, 4] (fun v i wr => ∃ k : Nat, k ≤ ns.length ∧ i = iV k ∧ Hid (wr.ownsRow w.heap.size 5 1 v (numsB (ns.take k)).length ((numsB (ns.take k)).map bV)) ∧ Hid (Below w.heap.size w wr)) (fun _ i _ => ns.length - (intOf i).toNat)
  case atStart => exact ⟨0, Nat.zero_le _, rfl, own_new w [] (by decide), ba w _⟩
  case round =>
    obtain ⟨k, hk, rfl, HO, HB⟩ := hrel
    obtain ⟨A2, c2, rfl⟩ := own_form HO.out
    by_cases hlt : k < ns.length
    · have hc := (HA.out.below HB.out).get (i := k) (by simpa using hlt)
      obtain ⟨b, off, rfl, hb1, hc⟩ := hc
      have k1 : wr.cell? ⟨b, off + k, none⟩ = some (iV ns[k]) := hc k _ (by simp [hlt])
      clear hc
      have hlk : Hid ((numsB (ns.take k)).length ≤ 800000) := by
        show _ ≤ _
        rw [numsB_len, List.length_take]; omega
      have hlk' := hlk.out
      have i1 : (0 : Int) ≤ (k : Int) := by omega
      have i2 : (k : Int) < (ns.length : Int) := by omega
      go_wp2_with (first
        | (go_at_call 49; refine (fnumber_any _ _ (HN.out _ (List.getElem_mem hlt))).mono ?_; rintro e w3 ⟨A3, c3, rfl, hown3, hb3⟩; have HO3 := Lib.hid hown3; clear hown3; have HB3 := Lib.hid hb3; clear hb3)
        | (at_builtin; refine wpList_app (by rfl) _ _ _ _ (by rfl) w.heap.size 5 i0 _ 1 1 Try.underlying38 hi0 hz0 hz1 hz2 (by rfl) _ (numsB (ns.take k)).length _ (by rfl) (own_below HO.out HB3.out) _ (by rfl) 8 ((numB ns[k]).map bV) (src_rd Try.underlying38 (own_rd HO3.out) (by rfl) (one_b _)) (by unfold maxLen; omega) (by omega) (by have := HB.out.size; have := HB3.out.size; omega) ?_; intro A4 c4 w4 hown4 hgrow4 _; have HO4 := Lib.hid hown4; clear hown4; have HG4 := Lib.hid hgrow4; clear hgrow4))
      go_roundw
      case rel =>
        refine ⟨k + 1, by omega, by go_num, ?_, ?_⟩
        · show World.ownsRow _ _ _ _ _ _ _
          rw [numsB_take ns k hlt, List.length_append, List.map_append]; exact HO4.out
        · exact app_below (bt HB.out HB3.out) (Nat.le_refl _) (own_below HO.out HB3.out) (Nat.le_refl _) HG4.out
      case measure => simp [intOf]; omega
    · obtain rfl : k = ns.length := by omega
      rw [List.take_length] at HO ⊢
      go_wp2
      go_ret
      exact ⟨A2, c2, rfl, HO.out, HB.out⟩
/-- '[]byte(s)'. -/
theorem wpList_bytes {P : Program} {w : World} {ops : Array Oper} {rest : List Oper} {o : Oper} {a : Act} {Q : Exit → Act → World → Prop} (hgd : o.guard = none) (x : Operand) (src dst e : TypeId)
    (ho : o.op = .convert src dst x) (hs : P.underlying src = some .string) (hd : P.underlying dst = some (.slice e)) (he : P.underlying e = some (.int .u8)) (l : List UInt8) (hx : a.eval x = sV l)
    (h : ∀ A c w', Rd w' A (l.map bV) → Below w.heap.size w w' → wpList P ops Q rest (a.put o.dst (.slice A l.length c)) w') : wpList P ops Q (o :: rest) a w := by
  have hr := Lib.run_convert_string_bytes (P := P) w src dst e ⟨l.toArray⟩ hs hd he
  have hz : (ByteArray.mk l.toArray).size = l.length := by simp [ByteArray.size]
  rw [hz] at hr
  refine wpList_plain hgd fun K hK => ?_
  unfold Oper.wp execOp
  simp only [ho, hx, Sem.run_bind, Sem.run_pure, Result.andThen_ok, hr]
  refine hK _ _ (h _ _ _ ?_ ?_)
  · refine .inr ⟨_, _, rfl, by rw [Lib.bytesWorld_size]; omega, fun i u hu => ?_⟩
    rw [List.getElem?_map] at hu
    cases hi : l[i]? with
    | none => rw [hi] at hu; cases hu
    | some y =>
      rw [hi] at hu
      cases hu
      obtain ⟨hil, rfl⟩ := List.getElem?_eq_some_iff.1 hi
      rw [Nat.zero_add, Lib.bytesWorld_cell _ _ _ _ (by rw [hz]; exact hil)]
      simp [hil]
  · exact ⟨rfl, rfl, rfl, by rw [Lib.bytesWorld_size]; omega, fun i hi => Lib.bytesWorld_at_old w e _ i hi⟩
set_option maxHeartbeats 2000000 in
theorem ftext_any (s : List UInt8) (w : World) (hl : s.length ≤ 100000) :
    Calls Try.prog 50 #[sV s] w (OwnB w (txtB s)) := by
  have HL : Hid ((txtB s).length = 2 + s.length) := by
    show (lenB s.length ++ s).length = _
    rw [List.length_append]; rfl
  obtain ⟨i0, hi0, hz0, hz1, hz2⟩ := info_parts byteInf
  go_enter Try.func50, Try.ntmps50
  go_wp2_with (first
    | (go_at_call 67; refine (flength_any _ _ (by unfold maxLen; omega)).mono ?_; rintro e w3 ⟨A3, c3, rfl, hown3, hb3⟩; have HO3 := Lib.hid hown3; clear hown3; have HB3 := Lib.hid hb3; clear hb3)
    | (refine wpList_bytes (by rfl) (.tmp 6) 9 38 5 (by rfl) Try.underlying9 Try.underlying38 Try.underlying5 s (by rfl) ?_; intro A5 c5 w5 hr5 hb5; have HR5 := Lib.hid hr5; clear hr5; have HB5 := Lib.hid hb5; clear hb5)
    | (at_builtin; refine wpList_app (by rfl) _ _ _ _ (by rfl) w.heap.size 5 i0 _ 1 1 Try.underlying38 hi0 hz0 hz1 hz2 (by rfl) _ 2 _ (by rfl) (own_below HO3.out HB5.out) _ (by rfl) s.length (s.map bV) (src_rd Try.underlying38 HR5.out (by simp) (one_b _)) (by unfold maxLen; omega) (by omega) (by have := HB3.out.size; have := HB5.out.size; omega) ?_; intro A4 c4 w4 hown4 hgrow4 _; have HO4 := Lib.hid hown4; clear hown4; have HG4 := Lib.hid hgrow4; clear hgrow4))
  go_ret
  refine ⟨A4, c4, ?_, ?_, app_below (bt HB3.out HB5.out) (Nat.le_refl _) (own_below HO3.out HB5.out) (Nat.le_refl _) HG4.out⟩
  · rw [HL.out]
    rfl
  · have := HO4.out
    rw [HL.out]
    unfold txtB
    rw [List.map_append]
    exact this
end Go.Proofs.Ytoaembpakmpolaa
