/-
  The walk over the examples with known results.
-/
import Derived.Test.YtoaembpakmpolaaJouHead
namespace Go.Proofs.Ytoaembpakmpolaa
open Go.RowKit Jou
attribute [local go_sem] ba_get ba_extract ba_append

/-- Bytes that are read, with room for what is asked of them. -/
def Bs (w : World) (A : Option Addr) (c : Nat) (l : List UInt8) : Prop := Rd w A (l.map bV) ∧ Low w.heap.size A ∧ l.length ≤ c ∧ c ≤ maxLen
theorem Bs.below {w w' : World} {A : Option Addr} {c : Nat} {l : List UInt8} (h : Bs w A c l) (hb : Below w.heap.size w w') : Bs w' A c l := ⟨h.1.below hb, h.2.1.mono hb.size, h.2.2⟩
theorem Bs.of_own {w : World} {base : Nat} {A : Option Addr} {c : Nat} {l : List UInt8} (h : w.ownsRow base 5 1 (.slice A l.length c) l.length (l.map bV)) : Bs w A c l := by
  refine ⟨own_rd h, fun a ha => (own_at h a ha).2, ?_⟩
  obtain ⟨A', c', hv, h1, h2, _⟩ := Rd.of_own h
  cases hv
  exact ⟨h1, h2⟩
theorem Bs.nil (w : World) : Bs w none 0 [] := ⟨Rd.nil _ _, fun a ha => (by cases ha), Nat.le_refl _, Nat.zero_le _⟩
theorem Bs.new {w : World} {g : Nat} {l : List UInt8} {t : TypeId} {fr : Nat × Nat} (h : w.heap[g]? = some (.cells (l.map bV).toArray t fr)) (hl : l.length ≤ 1000) : Bs w (some ⟨g, 0, none⟩) l.length l :=
  ⟨rd_of_row h, fun a ha => by cases ha; exact block_lt h, Nat.le_refl _, by unfold maxLen; omega⟩
theorem Bs.take {w : World} {A : Option Addr} {c : Nat} {l : List UInt8} (h : Bs w A c l) (n : Nat) : Bs w A c (l.take n) := ⟨by rw [List.map_take]; exact h.1.take n, h.2.1, by have := h.2.2.1; rw [List.length_take]; omega, h.2.2.2⟩

def exBytes : List UInt8 := (encode exLog).getD []
theorem ex_enc : encode exLog = some exBytes := by kernel_rfl
theorem ex_len : exBytes.length = 263 := by kernel_rfl
theorem ex_dec : decodeR exBytes = (exLog, 0) := by kernel_rfl
theorem ex_app1 : appendR [] [5] = ([0, 1, 255, 254, 0, 6, 0, 6, 5], 0) := by kernel_rfl
theorem ex_app2 : appendR [0, 1, 255, 254, 0, 6, 0, 6, 5, 0, 1] [6, 7] = ([0, 1, 255, 254, 0, 6, 0, 6, 5, 0, 2, 255, 253, 0, 21, 0, 14, 6, 7], 0) := by kernel_rfl
theorem ex_rec1 : recs [0, 1, 255, 254, 0, 6, 0, 6, 5, 0, 2, 255, 253, 0, 21, 0, 14, 6, 7] = [[5], [6, 7]] := by kernel_rfl
theorem ex_offs1 : offs [[5], [6, 7]] ([[5], [6, 7]] : List (List UInt8)).length = 19 := rfl
theorem ex_offs2 : offs [] ([] : List (List UInt8)).length = 0 := rfl
theorem ex_rec2 : recs [0, 1, 255, 254, 0, 6, 0, 6] = [] := by kernel_rfl
theorem ex_app3 : appendR [] [] = ([], 1) := by kernel_rfl
theorem ex_dec2 : decodeR [9] = (zeroLog, 400) := by kernel_rfl
theorem ex_enc2 : encode zeroLog = none := by kernel_rfl
theorem exLog_ok : Log.Ok exLog := by
  constructor <;> simp [exLog, exPost, Post.Ok, Rec.Ok, Paper.Ok, I64, maxLen]
theorem zeroLog_ok : Log.Ok zeroLog := by
  constructor <;> simp [zeroLog, Post.Ok, Rec.Ok, Paper.Ok, I64, maxLen]

/-- A block of an entry, just laid. -/
theorem log_new {w w1 : World} (h : Below w.heap.size w w1) (cs : Array Value) : Below w.heap.size w ((w1.alloc (.cells zeroCells 37)).setRow w1.heap.size cs) ∧ ((w1.alloc (.cells zeroCells 37)).setRow w1.heap.size cs).heap[w1.heap.size]? = some (.cells cs 37 (0, 0)) ∧ Below w1.heap.size w1 ((w1.alloc (.cells zeroCells 37)).setRow w1.heap.size cs) := by
  have h2 : Below w1.heap.size w1 ((w1.alloc (.cells zeroCells 37)).setRow w1.heap.size cs) := by
    have h1 := (Below.refl w1.heap.size w1).alloc (Nat.le_refl _) (.cells zeroCells 37)
    exact ⟨h1.os, h1.tape, h1.output, by rw [setRow_size]; exact h1.size, fun i hi => (setRow_other _ _ _ _ (by omega)).trans (h1.block i hi)⟩
  exact ⟨h.trans (h2.mono h.size), setRow_heap _ _ _ _ _ _ (heap_alloc_new _ _), h2⟩
theorem logCells_one (e : Log) (AC : Option Addr) (cc : Nat) (AP : Option Addr) (cp : Nat) : (logCells e AC cc AP cp).all (·.oneCell') = true := by simp [logCells, Value.oneCell']
/-- What stands throughout: the two entries. -/
def Hd (w : World) (b1 b3 : Nat) (AC AP AC3 AP3 : Option Addr) (cc3 cp3 : Nat) (W : World) : Prop :=
  Below w.heap.size w W ∧ W.heap[b1]? = some (.cells (logCells exLog AC 2 AP 2) 37 (0, 0)) ∧ W.heap[b3]? = some (.cells (logCells exLog AC3 cc3 AP3 cp3) 37 (0, 0)) ∧ Rd W AC (exLog.rcd.contents.map sV) ∧ Rd W AP (exLog.paper.path.map iV) ∧ Rd W AC3 (exLog.rcd.contents.map sV) ∧ Rd W AP3 (exLog.paper.path.map iV)
theorem Hd.below {w : World} {b1 b3 : Nat} {AC AP AC3 AP3 : Option Addr} {cc3 cp3 : Nat} {W W' : World} (h : Hd w b1 b3 AC AP AC3 AP3 cc3 cp3 W) (hb : Below W.heap.size W W') : Hd w b1 b3 AC AP AC3 AP3 cc3 cp3 W' :=
  ⟨h.1.trans (hb.mono h.1.size), (hb.block _ (block_lt h.2.1)).trans h.2.1, (hb.block _ (block_lt h.2.2.1)).trans h.2.2.1, h.2.2.2.1.below hb, h.2.2.2.2.1.below hb, h.2.2.2.2.2.1.below hb, h.2.2.2.2.2.2.below hb⟩
theorem ba (W : World) (o : Obj) : Below W.heap.size W (W.alloc o) := (Below.refl _ W).alloc (Nat.le_refl _) o
theorem g_below {W w' : World} {v : Value} {base n : Nat} {e : TypeId} {xs : List Value} (h : W.ownsRow base e 1 v n xs) (hg : W.grownBy w' v.ownBlock) {B : Nat} (hB : B ≤ base) (hB2 : B ≤ W.heap.size) : Below B W w' :=
  ⟨hg.os, hg.tape, hg.output, hg.size, fun i hi => hg.block i (by omega) (fun e => by have := (h.lt i e.symm).1; omega)⟩
/-- The walk stands here. -/
structure Stop (p : Prop) : Prop where
  out : p
set_option maxHeartbeats 8000000 in
set_option maxRecDepth 100000 in
theorem head_any (w : World) : Calls Try.prog 10 #[] w fun e w' => e = .returned (.bool true) ∧ Below w.heap.size w w' := by
  obtain ⟨i0, hi0, hz0, hz1, hz2⟩ := info_parts byteInf
  go_enter Try.func10, Try.ntmps10
  go_wp2_with fail
  refine (example_any w).mono ?_
  rintro e w1 ⟨AC, AP, rfl, hb1, hC1, hP1, hCl1, hPl1⟩
  obtain ⟨hbW1, hg1, hb12⟩ := log_new hb1 (logCells exLog AC 2 AP 2)
  have HR1 : Hid (Rd ((w1.alloc (.cells zeroCells 37)).setRow w1.heap.size (logCells exLog AC 2 AP 2)) AC (exLog.rcd.contents.map sV) ∧ Rd ((w1.alloc (.cells zeroCells 37)).setRow w1.heap.size (logCells exLog AC 2 AP 2)) AP (exLog.paper.path.map iV) ∧ Low ((w1.alloc (.cells zeroCells 37)).setRow w1.heap.size (logCells exLog AC 2 AP 2)).heap.size AC ∧ Low ((w1.alloc (.cells zeroCells 37)).setRow w1.heap.size (logCells exLog AC 2 AP 2)).heap.size AP) := ⟨hC1.below hb12, hP1.below hb12, hCl1.mono hb12.size, hPl1.mono hb12.size⟩
  have HG1 := Lib.hid hg1
  have HB1 := Lib.hid hbW1
  clear hb1 hC1 hP1 hCl1 hPl1 hbW1 hg1 hb12
  go_wp2_with (first | (refine wpList_store_row (by rfl) 37 (.tmp 1) (.tmp 17) (by rfl) w1.heap.size (logCells exLog AC 2 AP 2) (by rfl) (by rfl) 37 zeroCells (heap_alloc_new _ _) lgInf rfl (logCells_one _ _ _ _ _) ?_) | (refine wpList_load_row (by rfl) 37 (.tmp 1) (by rfl) w1.heap.size (by rfl) 37 (logCells exLog AC 2 AP 2) (0, 0) _ HG1.out Try.underlying37 rfl lgInf ?_))
  refine (encode_any exLog AC 2 AP 2 _ exLog_ok HR1.out.1 HR1.out.2.1 HR1.out.2.2.1 HR1.out.2.2.2).mono ?_
  rintro e w2 ⟨hb2, hres⟩
  rw [ex_enc] at hres
  obtain ⟨Ab, cb, rfl, hown2⟩ := hres
  rw [ex_len]
  have HBs2 := Lib.hid (Bs.of_own hown2)
  have HE2 : Hid (Below w.heap.size w w2 ∧ w2.heap[w1.heap.size]? = some (.cells (logCells exLog AC 2 AP 2) 37 (0, 0)) ∧ Rd w2 AC (exLog.rcd.contents.map sV) ∧ Rd w2 AP (exLog.paper.path.map iV)) := ⟨HB1.out.trans (hb2.mono HB1.out.size), (hb2.block _ (block_lt HG1.out)).trans HG1.out, HR1.out.1.below hb2, HR1.out.2.1.below hb2⟩
  clear hown2 hb2 HR1 HG1 HB1
  go_wp2_with fail
  have CD := decode_any exBytes Ab cb w2 HBs2.out.1 HBs2.out.2.1 HBs2.out.2.2.1 HBs2.out.2.2.2
  rw [ex_len] at CD
  refine CD.mono ?_
  clear CD
  rintro e w3 ⟨hb3, AC3, cc3, AP3, cp3, rfl, hC3, hP3, hCl3, hPl3⟩
  rw [ex_dec] at hC3 hP3 ⊢
  obtain ⟨hbW3, hg3, hb34⟩ := log_new (HE2.out.1.trans (hb3.mono HE2.out.1.size)) (logCells exLog AC3 cc3 AP3 cp3)
  have HE3 : Hid (∀ W3, Below w3.heap.size w3 W3 → W3.heap[w3.heap.size]? = some (.cells (logCells exLog AC3 cc3 AP3 cp3) 37 (0, 0)) → Below w.heap.size w W3 → W3.heap[w1.heap.size]? = some (.cells (logCells exLog AC 2 AP 2) 37 (0, 0)) ∧ Rd W3 AC (exLog.rcd.contents.map sV) ∧ Rd W3 AP (exLog.paper.path.map iV) ∧ Rd W3 AC3 (exLog.rcd.contents.map sV) ∧ Rd W3 AP3 (exLog.paper.path.map iV)) := fun W3 h1 h2 h3 =>
    ⟨(h1.block _ (Nat.lt_of_lt_of_le (block_lt HE2.out.2.1) hb3.size)).trans ((hb3.block _ (block_lt HE2.out.2.1)).trans HE2.out.2.1), (HE2.out.2.2.1.below hb3).below h1, (HE2.out.2.2.2.below hb3).below h1, hC3.below h1, hP3.below h1⟩
  have HW3 : Hid (Below w.heap.size w ((w3.alloc (.cells zeroCells 37)).setRow w3.heap.size (logCells exLog AC3 cc3 AP3 cp3)) ∧ ((w3.alloc (.cells zeroCells 37)).setRow w3.heap.size (logCells exLog AC3 cc3 AP3 cp3)).heap[w3.heap.size]? = some (.cells (logCells exLog AC3 cc3 AP3 cp3) 37 (0, 0)) ∧ Below w3.heap.size w3 ((w3.alloc (.cells zeroCells 37)).setRow w3.heap.size (logCells exLog AC3 cc3 AP3 cp3))) := ⟨hbW3, hg3, hb34⟩
  clear hb3 hC3 hP3 hCl3 hPl3 hbW3 hg3 hb34 HE2 HBs2
  go_wp2_with (first | (refine wpList_store_row (by rfl) 37 (.tmp 3) (.tmp 23) (by rfl) w3.heap.size (logCells exLog AC3 cc3 AP3 cp3) (by rfl) (by rfl) 37 zeroCells (heap_alloc_new _ _) lgInf rfl (logCells_one _ _ _ _ _) ?_))
  have HD4 : Hid (Hd w w1.heap.size w3.heap.size AC AP AC3 AP3 cc3 cp3 (((w3.alloc (.cells zeroCells 37)).setRow w3.heap.size (logCells exLog AC3 cc3 AP3 cp3)).alloc (.cells #[.int .u8 5] 5))) := by
    have h := HE3.out _ HW3.out.2.2 HW3.out.2.1 HW3.out.1
    exact Hd.below ⟨HW3.out.1, h.1, HW3.out.2.1, h.2⟩ (ba _ _)
  have HN4 : Hid ((((w3.alloc (.cells zeroCells 37)).setRow w3.heap.size (logCells exLog AC3 cc3 AP3 cp3)).alloc (.cells #[.int .u8 5] 5)).heap[w3.heap.size + 1]? = some (.cells (([5] : List UInt8).map bV).toArray 5 (0, 0))) := by
    have := heap_alloc_new ((w3.alloc (.cells zeroCells 37)).setRow w3.heap.size (logCells exLog AC3 cc3 AP3 cp3)) (.cells #[.int .u8 5] 5)
    rw [setRow_size, World.size_alloc] at this
    exact this
  clear HE3 HW3
  have N4 := Bs.new HN4.out (by decide)
  have E4 := Bs.nil (((w3.alloc (.cells zeroCells 37)).setRow w3.heap.size (logCells exLog AC3 cc3 AP3 cp3)).alloc (.cells #[.int .u8 5] 5))
  refine (append_any [] [5] none (some ⟨w3.heap.size + 1, 0, none⟩) 0 1 _ E4.1 E4.2.1 N4.1 N4.2.1 E4.2.2.1 E4.2.2.2 (by decide) (by decide)).mono ?_
  rintro e w4 ⟨Aj, cj, rfl, hown4, hb4⟩
  rw [ex_app1] at hown4 ⊢
  have HJ := Lib.hid (Bs.of_own hown4)
  have HD5 := Lib.hid (HD4.out.below hb4)
  clear HD4 HN4 N4 E4 hown4 hb4
  have o1 : Hid ((w4.alloc (.cells #[] 5)).ownsRow w4.heap.size 5 1 (.slice (some ⟨w4.heap.size, 0, none⟩) 0 0) 0 []) := ⟨rfl, .inr ⟨w4.heap.size, 0, #[], rfl, Nat.le_refl _, heap_alloc_new _ _, Nat.le_refl _, Nat.zero_le _, rfl, rfl⟩⟩
  have j1 : Hid (Bs (w4.alloc (.cells #[] 5)) Aj cj [0, 1, 255, 254, 0, 6, 0, 6, 5]) := HJ.out.below (ba _ _)
  go_wp2_with (first
    | (at_builtin; refine wpList_app (by rfl) (.tmp 31) (.tmp 32) _ _ (by rfl) w4.heap.size 5 i0 _ 1 1 Try.underlying38 hi0 hz0 hz1 hz2 (by rfl) _ 0 _ (by rfl) o1.out _ (by rfl) 9 _ (src_rd Try.underlying38 j1.out.1 (by rfl) (one_b _)) (by decide) (by decide) (by simp) ?_; intro A5 c5 w5 hown5 hgrow5 _; have HO5 := Lib.hid hown5; have HB5 : Hid (Below w4.heap.size w4 w5) := (ba w4 _).trans (g_below o1.out hgrow5 (Nat.le_refl _) (by simp)); clear hown5 hgrow5)
    | (at_builtin; refine wpList_app (by rfl) (.tmp 33) (.tmp 34) _ _ (by rfl) w4.heap.size 5 i0 _ 1 1 Try.underlying38 hi0 hz0 hz1 hz2 (by rfl) _ 9 _ (by rfl) (HO5.out.alloc _) _ (by rfl) 2 (([0, 1] : List UInt8).map bV) (src_rd Try.underlying38 (Rd.new w5 _ _) (by rfl) (one_b _)) (by decide) (by decide) (by have := HB5.out.size; simp; omega) ?_; intro A6 c6 w6 hown6 hgrow6 _; have HO6 := Lib.hid hown6; have HB6 : Hid (Below w4.heap.size w4 w6) := (HB5.out.alloc HB5.out.size _).trans (g_below (HO5.out.alloc _) hgrow6 (Nat.le_refl _) (by have := HB5.out.size; simp; omega)); clear hown6 hgrow6))
  have HK0 : Hid (Bs w6 A6 c6 [0, 1, 255, 254, 0, 6, 0, 6, 5, 0, 1]) := Bs.of_own (base := w4.heap.size) HO6.out
  have k0 := HK0.out.below (ba w6 (.cells #[.int .u8 6, .int .u8 7] 5))
  have k1 : Bs (w6.alloc (.cells #[.int .u8 6, .int .u8 7] 5)) (some ⟨w6.heap.size, 0, none⟩) 2 [6, 7] := Bs.new (heap_alloc_new w6 (.cells #[.int .u8 6, .int .u8 7] 5)) (by decide)
  have HD6 := Lib.hid ((HD5.out.below HB6.out).below (ba w6 (.cells #[.int .u8 6, .int .u8 7] 5)))
  have HJ6 := Lib.hid ((HJ.out.below HB6.out).below (ba w6 (.cells #[.int .u8 6, .int .u8 7] 5)))
  refine (append_any [0, 1, 255, 254, 0, 6, 0, 6, 5, 0, 1] [6, 7] A6 (some ⟨w6.heap.size, 0, none⟩) c6 2 _ k0.1 k0.2.1 k1.1 k1.2.1 k0.2.2.1 k0.2.2.2 (by decide) (by decide)).mono ?_
  rintro e w7 ⟨Ak, ck, rfl, hown7, hb7⟩
  rw [ex_app2] at hown7 ⊢
  have HK := Lib.hid (Bs.of_own hown7)
  have HD7 := Lib.hid (HD6.out.below hb7)
  have HJ7 := Lib.hid (HJ6.out.below hb7)
  clear hown7 hb7 k0 k1 HD6 HJ6 HK0 HO5 HO6 HB5 HB6 o1 j1 HD5 HJ
  go_wp2_with fail
  refine (records_all _ Ak ck _ HK.out.1 HK.out.2.1 HK.out.2.2.1 HK.out.2.2.2 (by decide)).mono ?_
  rintro e w8 ⟨rows, Al, cl, hrows, rfl, hown8, heach8, hb8⟩
  rw [ex_rec1] at hrows ⊢
  rw [ex_offs1]
  have hrl : rows.length = 2 := by have := congrArg List.length hrows; simpa using this
  have HL8 : Hid (RdL w8 Al [[5], [6, 7]]) := ⟨rows, hrows, own_rd hown8, fun r hr => ⟨own_rd (heach8 r hr), fun a ha => (own_at (heach8 r hr) a ha).2, (Bs.of_own (heach8 r hr)).2.2⟩⟩
  rw [hrl]
  have HD8 := Lib.hid (HD7.out.below hb8)
  have HJ8 := Lib.hid (HJ7.out.below hb8)
  clear hrows hown8 heach8 hb8 hrl HD7 HJ7 HK rows
  have cj9 : (8 : Int) ≤ (cj : Int) := by have := HJ8.out.2.2.1; simp at this; omega
  have cj10 : cj ≤ 9223372036854775807 := by have := HJ8.out.2.2.2; unfold maxLen at this; omega
  go_wp2_with fail
  have j8 := HJ8.out.take 8
  refine (records_all [0, 1, 255, 254, 0, 6, 0, 6] Aj cj w8 j8.1 j8.2.1 j8.2.2.1 j8.2.2.2 (by decide)).mono ?_
  rintro e w9 ⟨rows, Am, cm, hrows, rfl, hown9, heach9, hb9⟩
  rw [ex_rec2] at hrows ⊢
  rw [ex_offs2]
  have hrl : rows.length = 0 := by have := congrArg List.length hrows; simpa using this
  rw [hrl]
  have HD9 := Lib.hid (HD8.out.below hb9)
  have HJ9 := Lib.hid (HJ8.out.below hb9)
  have HL9 := Lib.hid (HL8.out.below hb9)
  clear hrows hown9 heach9 hb9 hrl HD8 HJ8 HL8 rows j8
  go_wp2_with fail
  have n9 := Bs.nil w9
  refine (append_any [] [] none none 0 0 w9 n9.1 n9.2.1 n9.1 n9.2.1 n9.2.2.1 n9.2.2.2 (by decide) (by decide)).mono ?_
  rintro e w10 ⟨A10, c10, rfl, hown10, hb10⟩
  rw [ex_app3] at hown10 ⊢
  have HD10 := Lib.hid ((HD9.out.below hb10).below (ba w10 (.cells #[.int .u8 9] 5)))
  have HJ10 := Lib.hid ((HJ9.out.below hb10).below (ba w10 (.cells #[.int .u8 9] 5)))
  have HL10 := Lib.hid ((HL9.out.below hb10).below (ba w10 (.cells #[.int .u8 9] 5)))
  clear hown10 hb10 n9 HD9 HJ9 HL9
  go_wp2_with fail
  have n10 : Bs (w10.alloc (.cells #[.int .u8 9] 5)) (some ⟨w10.heap.size, 0, none⟩) 1 [9] := Bs.new (heap_alloc_new w10 (.cells #[.int .u8 9] 5)) (by decide)
  refine (decode_any [9] (some ⟨w10.heap.size, 0, none⟩) 1 _ n10.1 n10.2.1 n10.2.2.1 n10.2.2.2).mono ?_
  rintro e w11 ⟨hb11, AC4, cc4, AP4, cp4, rfl, -, -, -, -⟩
  rw [ex_dec2]
  have HD11 := Lib.hid (HD10.out.below hb11)
  have HJ11 := Lib.hid (HJ10.out.below hb11)
  have HL11 := Lib.hid (HL10.out.below hb11)
  clear hb11 n10 HD10 HJ10 HL10
  have HW11 := Lib.hid (log_new (Below.refl w11.heap.size w11) (logCells zeroLog AC4 cc4 AP4 cp4))
  have HD12 : Hid (Hd w w1.heap.size w3.heap.size AC AP AC3 AP3 cc3 cp3 ((w11.alloc (.cells #[iV 0, iV 0, .string ⟨#[]⟩, .string ⟨#[]⟩, iV 0, iV 0, iV 0, iV 0, iV 0, iV 0, iV 0, iV 0, .string ⟨#[]⟩, .slice none 0 0, .string ⟨#[]⟩, iV 0, iV 0, iV 0, iV 0, iV 0, iV 0, iV 0, .string ⟨#[]⟩, iV 0, .slice none 0 0, .string ⟨#[]⟩, iV 0, iV 0, iV 0, iV 0, iV 0, iV 0] 37)).setRow w11.heap.size (logCells zeroLog AC4 cc4 AP4 cp4))) := HD11.out.below HW11.out.2.2
  have HJ12 : Hid (Bs ((w11.alloc (.cells #[iV 0, iV 0, .string ⟨#[]⟩, .string ⟨#[]⟩, iV 0, iV 0, iV 0, iV 0, iV 0, iV 0, iV 0, iV 0, .string ⟨#[]⟩, .slice none 0 0, .string ⟨#[]⟩, iV 0, iV 0, iV 0, iV 0, iV 0, iV 0, iV 0, .string ⟨#[]⟩, iV 0, .slice none 0 0, .string ⟨#[]⟩, iV 0, iV 0, iV 0, iV 0, iV 0, iV 0] 37)).setRow w11.heap.size (logCells zeroLog AC4 cc4 AP4 cp4)) Aj cj [0, 1, 255, 254, 0, 6, 0, 6, 5]) := HJ11.out.below HW11.out.2.2
  have HL12 : Hid (RdL ((w11.alloc (.cells #[iV 0, iV 0, .string ⟨#[]⟩, .string ⟨#[]⟩, iV 0, iV 0, iV 0, iV 0, iV 0, iV 0, iV 0, iV 0, .string ⟨#[]⟩, .slice none 0 0, .string ⟨#[]⟩, iV 0, iV 0, iV 0, iV 0, iV 0, iV 0, iV 0, .string ⟨#[]⟩, iV 0, .slice none 0 0, .string ⟨#[]⟩, iV 0, iV 0, iV 0, iV 0, iV 0, iV 0] 37)).setRow w11.heap.size (logCells zeroLog AC4 cc4 AP4 cp4)) Al [[5], [6, 7]]) := HL11.out.below HW11.out.2.2
  clear HW11 HD11 HJ11 HL11
  go_wp2_with (first | (refine wpList_store_row (by rfl) 37 (.tmp 15) (.tmp 61) (by rfl) w11.heap.size (logCells zeroLog AC4 cc4 AP4 cp4) (by rfl) (by rfl) 37 zeroCells (heap_alloc_new _ _) lgInf rfl (logCells_one _ _ _ _ _) ?_; obtain ⟨W12, hW12⟩ : ∃ W12, (w11.alloc (.cells #[iV 0, iV 0, .string ⟨#[]⟩, .string ⟨#[]⟩, iV 0, iV 0, iV 0, iV 0, iV 0, iV 0, iV 0, iV 0, .string ⟨#[]⟩, .slice none 0 0, .string ⟨#[]⟩, iV 0, iV 0, iV 0, iV 0, iV 0, iV 0, iV 0, .string ⟨#[]⟩, iV 0, .slice none 0 0, .string ⟨#[]⟩, iV 0, iV 0, iV 0, iV 0, iV 0, iV 0] 37)).setRow w11.heap.size (logCells zeroLog AC4 cc4 AP4 cp4) = W12 := ⟨_, rfl⟩; rw [hW12] at HD12 HJ12 HL12 ⊢; clear hW12; refine Stop.out ?_))
  refine ⟨?_⟩
  iterate 8 go_step
  iterate 8
    refine wpList_step (fun K hK => ?_)
    go_simp
    refine hK _ _ ?_
    clear hK K
  refine wpList_step (fun K hK => ?_)
  rw [if_pos (by rfl)]
  refine wp_load_row 37 (.tmp 3) (by rfl) w3.heap.size (by rfl) 37 (logCells exLog AC3 cc3 AP3 cp3) (0, 0) _ HD12.out.2.2.1 Try.underlying37 rfl lgInf (hK _ _ ?_)
  clear hK K
  refine wpList_step (fun K hK => ?_)
  rw [if_pos (by rfl)]
  refine wp_load_row 37 (.tmp 1) (by rfl) w1.heap.size (by rfl) 37 (logCells exLog AC 2 AP 2) (0, 0) _ HD12.out.2.1 Try.underlying37 rfl lgInf (hK _ _ ?_)
  clear hK K
  go_wp2_with fail
  have CS := same_same exLog AC3 AP3 AC AP cc3 cp3 2 2 W12 HD12.out.2.2.2.2.2.1 HD12.out.2.2.2.1 HD12.out.2.2.2.2.2.2 HD12.out.2.2.2.2.1 (by decide) (by decide)
  refine CS.mono ?_
  clear CS
  rintro e w13 ⟨rfl, hb13⟩
  have HD13 := Lib.hid (HD12.out.below hb13)
  have HJ13 := Lib.hid (HJ12.out.below hb13)
  have HL13 := Lib.hid (HL12.out.below hb13)
  clear hb13 HD12 HJ12 HL12
  go_wp2_with fail
  have b13 := HJ13.out.below (ba w13 (.cells #[.int .u8 0, .int .u8 1, .int .u8 255, .int .u8 254, .int .u8 0, .int .u8 6, .int .u8 0, .int .u8 6, .int .u8 5] 5))
  have n13 : Bs (w13.alloc (.cells #[.int .u8 0, .int .u8 1, .int .u8 255, .int .u8 254, .int .u8 0, .int .u8 6, .int .u8 0, .int .u8 6, .int .u8 5] 5)) (some ⟨w13.heap.size, 0, none⟩) 9 [0, 1, 255, 254, 0, 6, 0, 6, 5] := Bs.new (heap_alloc_new w13 _) (by decide)
  refine (bytes_any [0, 1, 255, 254, 0, 6, 0, 6, 5] [0, 1, 255, 254, 0, 6, 0, 6, 5] Aj (some ⟨w13.heap.size, 0, none⟩) cj 9 _ b13.1 n13.1 (by decide)).mono ?_
  rintro e w14 ⟨rfl, n14, hw14⟩
  rw [decide_eq_true (rfl : ([0, 1, 255, 254, 0, 6, 0, 6, 5] : List UInt8) = _)]
  have hb14 : Below w13.heap.size w13 w14 := by rw [hw14]; exact below_drewN (ba w13 _) _
  have HD14 := Lib.hid (HD13.out.below hb14)
  have HL14 := Lib.hid (HL13.out.below hb14)
  clear b13 n13 hw14 hb14 HD13 HJ13 HL13
  have hb15 : Hid (Below w14.heap.size w14 (((w14.alloc (.cells #[.int .u8 5] 5)).alloc (.cells #[.int .u8 6, .int .u8 7] 5)).alloc (.cells #[.slice (some ⟨w14.heap.size, 0, none⟩) 1 1, .slice (some ⟨w14.heap.size + 1, 0, none⟩) 2 2] 38))) := (((ba w14 _).alloc (by simp) _).alloc (by simp; omega) _)
  have HL15 : Hid (RdL (((w14.alloc (.cells #[.int .u8 5] 5)).alloc (.cells #[.int .u8 6, .int .u8 7] 5)).alloc (.cells #[.slice (some ⟨w14.heap.size, 0, none⟩) 1 1, .slice (some ⟨w14.heap.size + 1, 0, none⟩) 2 2] 38)) (some ⟨w14.heap.size + 1 + 1, 0, none⟩) [[5], [6, 7]]) := by
    have r1 : (((w14.alloc (.cells #[.int .u8 5] 5)).alloc (.cells #[.int .u8 6, .int .u8 7] 5)).alloc (.cells #[.slice (some ⟨w14.heap.size, 0, none⟩) 1 1, .slice (some ⟨w14.heap.size + 1, 0, none⟩) 2 2] 38)).heap[w14.heap.size]? = some (.cells (([5] : List UInt8).map bV).toArray 5 (0, 0)) := (Below.heap_alloc _ _ _ (by simp; omega)).trans ((Below.heap_alloc _ _ _ (by simp)).trans (heap_alloc_new _ _))
    have r2 : (((w14.alloc (.cells #[.int .u8 5] 5)).alloc (.cells #[.int .u8 6, .int .u8 7] 5)).alloc (.cells #[.slice (some ⟨w14.heap.size, 0, none⟩) 1 1, .slice (some ⟨w14.heap.size + 1, 0, none⟩) 2 2] 38)).heap[w14.heap.size + 1]? = some (.cells (([6, 7] : List UInt8).map bV).toArray 5 (0, 0)) := (Below.heap_alloc _ _ _ (by simp)).trans (by
      have := heap_alloc_new (w14.alloc (.cells #[.int .u8 5] 5)) (.cells #[.int .u8 6, .int .u8 7] 5)
      rw [World.size_alloc] at this
      exact this)
    have r3 : (((w14.alloc (.cells #[.int .u8 5] 5)).alloc (.cells #[.int .u8 6, .int .u8 7] 5)).alloc (.cells #[.slice (some ⟨w14.heap.size, 0, none⟩) 1 1, .slice (some ⟨w14.heap.size + 1, 0, none⟩) 2 2] 38)).heap[w14.heap.size + 1 + 1]? = some (.cells (([(some ⟨w14.heap.size, 0, none⟩, 1, [5]), (some ⟨w14.heap.size + 1, 0, none⟩, 2, [6, 7])] : List Sl).map slV).toArray 38 (0, 0)) := by
      have := heap_alloc_new ((w14.alloc (.cells #[.int .u8 5] 5)).alloc (.cells #[.int .u8 6, .int .u8 7] 5)) (.cells #[.slice (some ⟨w14.heap.size, 0, none⟩) 1 1, .slice (some ⟨w14.heap.size + 1, 0, none⟩) 2 2] 38)
      simp only [World.size_alloc] at this
      exact this
    have n1 := Bs.new r1 (by decide)
    have n2 := Bs.new r2 (by decide)
    refine ⟨_, rfl, rd_of_row r3, fun r hr => ?_⟩
    simp only [List.mem_cons, List.not_mem_nil, or_false] at hr
    rcases hr with rfl | rfl
    · exact ⟨n1.1, n1.2.1, n1.2.2⟩
    · exact ⟨n2.1, n2.2.1, n2.2.2⟩
  have HL16 := Lib.hid (HL14.out.below hb15.out)
  have HD16 := Lib.hid (HD14.out.below hb15.out)
  clear HL14 HD14 hb15
  go_wp2_with fail
  refine (lists_same [[5], [6, 7]] Al (some ⟨w14.heap.size + 1 + 1, 0, none⟩) cl 2 _ HL16.out HL15.out (by decide)).mono ?_
  rintro e w17 ⟨rfl, n17, hw17⟩
  have HD17 : Hid (Hd w w1.heap.size w3.heap.size AC AP AC3 AP3 cc3 cp3 w17) := by
    have := HD16.out.below (below_drewN (Below.refl _ _) n17)
    rw [← hw17] at this
    exact this
  clear HL15 HL16 HD16 hw17
  go_wp2_with fail
  refine (encode_any zeroLog none 0 none 0 w17 zeroLog_ok (Rd.nil _ _) (Rd.nil _ _) (fun a ha => by cases ha) (fun a ha => by cases ha)).mono ?_
  rintro e w18 ⟨hb18, hres⟩
  rw [ex_enc2] at hres
  subst hres
  have hb19 : Hid (Below w.heap.size w w18) := HD17.out.1.trans (hb18.mono HD17.out.1.size)
  clear hb18 HD17
  go_wp2
  go_ret
  exact ⟨rfl, hb19.out⟩
end Go.Proofs.Ytoaembpakmpolaa
