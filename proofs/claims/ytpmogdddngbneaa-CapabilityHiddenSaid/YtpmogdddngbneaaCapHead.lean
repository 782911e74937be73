/-
  The chapter's examples: head returns true.
-/
import Derived.Test.YtpmogdddngbneaaCapRef6
namespace Go.Proofs.Ytpmogdddngbneaa
open Go.RowKit Go.Sort

def sg1 : Sight := ⟨0, 1, 2⟩
def sg2 : Sight := ⟨1, 5, 9⟩
def exE : List Ev := [⟨sg2, [0]⟩, ⟨sg1, [1, 2]⟩, ⟨sg2, [3]⟩]
theorem ex1 : Seen exE [[4]] [sg1, sg2] := by
  refine ⟨by simp [Strict, lessS, sg1, sg2], fun s => ?_⟩
  simp only [IsSeen, exE, List.mem_cons, List.not_mem_nil, or_false, exists_eq_or_imp, exists_eq_left]
  simp [sureB]
  constructor
  · rintro (h | h) <;> simp [h]
  · rintro (h | h | h) <;> simp [h]
theorem ex2 : Seen exE [[1], [2]] [sg2] := by
  refine ⟨by simp [Strict], fun s => ?_⟩
  simp only [IsSeen, exE, List.mem_cons, List.not_mem_nil, or_false, exists_eq_or_imp, exists_eq_left]
  simp [sureB]
  first | exact eq_comm | (constructor <;> intro h <;> first | exact h.symm | (rcases h with h | h <;> exact h.symm) | simp [h])
theorem ex3 : Seen exE [[0], [3]] [sg1] := by
  refine ⟨by simp [Strict], fun s => ?_⟩
  simp only [IsSeen, exE, List.mem_cons, List.not_mem_nil, or_false, exists_eq_or_imp, exists_eq_left]
  simp [sureB]
  first | exact eq_comm | (constructor <;> intro h <;> first | exact h.symm | (rcases h with h | h <;> exact h.symm) | simp [h])
theorem Nums.new (w : World) (ns : List Int) (t : TypeId) (H : Nat) (hH : w.heap.size = H) (hn : ∀ n ∈ ns, I64 n) (hl : ns.length ≤ 1000000) : Nums (w.alloc (.cells (ns.map iV).toArray t)) (some ⟨H, 0, none⟩) ns := by
  subst hH
  exact ⟨Rd.new w _ t, hn, hl⟩
set_option maxHeartbeats 1000000 in
theorem example_any (w : World) : Calls Try.prog 21 #[] w fun e w' => ∃ A c evs, e = .returned (.slice A (List.length evs) c) ∧ evsOf evs = exE ∧ Events w' A evs ∧ Below w.heap.size w w' := by
  go_enter Try.func21, Try.ntmps21
  go_wp2
  go_ret
  have b1 := ba w (.cells #[.int .i64 0] 3)
  have b2 := ba (w.alloc (.cells #[.int .i64 0] 3)) (.cells #[.int .i64 1, .int .i64 2] 3)
  have b3 := ba ((w.alloc (.cells #[.int .i64 0] 3)).alloc (.cells #[.int .i64 1, .int .i64 2] 3)) (.cells #[.int .i64 3] 3)
  have n1 := Nums.new w [0] 3 w.heap.size rfl (by simp [I64]) (by simp)
  have n2 := Nums.new (w.alloc (.cells #[.int .i64 0] 3)) [1, 2] 3 (w.heap.size + 1) (by simp) (by simp [I64]) (by simp)
  have n3 := Nums.new ((w.alloc (.cells #[.int .i64 0] 3)).alloc (.cells #[.int .i64 1, .int .i64 2] 3)) [3] 3 (w.heap.size + 2) (by simp) (by simp [I64]) (by simp)
  have m1 := (n1.below b2).below b3
  have m2 := n2.below b3
  have z : (((w.alloc (.cells #[.int .i64 0] 3)).alloc (.cells #[.int .i64 1, .int .i64 2] 3)).alloc (.cells #[.int .i64 3] 3)).heap.size = w.heap.size + 3 := by simp
  have b4 := fun o => ba (((w.alloc (.cells #[.int .i64 0] 3)).alloc (.cells #[.int .i64 1, .int .i64 2] 3)).alloc (.cells #[.int .i64 3] 3)) o
  refine ⟨_, _, [⟨⟨sg2, [0]⟩, some ⟨w.heap.size, 0, none⟩, 1⟩, ⟨⟨sg1, [1, 2]⟩, some ⟨w.heap.size + 1, 0, none⟩, 2⟩, ⟨⟨sg2, [3]⟩, some ⟨w.heap.size + 2, 0, none⟩, 1⟩], rfl, rfl, ⟨?_, ?_, by simp⟩, ?_⟩
  · have := Rd.new (((w.alloc (.cells #[.int .i64 0] 3)).alloc (.cells #[.int .i64 1, .int .i64 2] 3)).alloc (.cells #[.int .i64 3] 3)) ([⟨⟨sg2, [0]⟩, some ⟨w.heap.size, 0, none⟩, 1⟩, ⟨⟨sg1, [1, 2]⟩, some ⟨w.heap.size + 1, 0, none⟩, 2⟩, ⟨⟨sg2, [3]⟩, some ⟨w.heap.size + 2, 0, none⟩, 1⟩].flatMap encE) 42
    rw [z] at this
    exact this
  · intro x hx
    simp only [List.mem_cons, List.not_mem_nil, or_false] at hx
    rcases hx with rfl | rfl | rfl
    · exact ⟨by simp [Sight.ok, I64, sg2], m1.below (b4 _)⟩
    · exact ⟨by simp [Sight.ok, I64, sg1], m2.below (b4 _)⟩
    · exact ⟨by simp [Sight.ok, I64, sg2], n3.below (b4 _)⟩
  · exact bt (bt (bt b1 b2) b3) (b4 _)
theorem worlds1 (w : World) (n : Int) (hn : I64 n) (H : Nat) (hH : w.heap.size = H) : Worlds ((w.alloc (.cells #[iV n] 3)).alloc (.cells #[.slice (some ⟨H, 0, none⟩) 1 1] 34)) (some ⟨H + 1, 0, none⟩) [⟨[n], some ⟨H, 0, none⟩, 1⟩] := by
  subst hH
  have n1 := Nums.new w [n] 3 w.heap.size rfl (by simpa using hn) (by simp)
  refine ⟨?_, fun x hx => ?_, by simp⟩
  · have := Rd.new (w.alloc (.cells #[iV n] 3)) [.slice (some ⟨w.heap.size, 0, none⟩) 1 1] 34
    rw [show (w.alloc (.cells #[iV n] 3)).heap.size = w.heap.size + 1 by simp] at this
    exact this
  · rw [List.mem_singleton.1 hx]
    exact n1.below (ba _ _)
theorem worlds2 (w : World) (n m : Int) (hn : I64 n) (hm : I64 m) (H : Nat) (hH : w.heap.size = H) : Worlds (((w.alloc (.cells #[iV n] 3)).alloc (.cells #[iV m] 3)).alloc (.cells #[.slice (some ⟨H, 0, none⟩) 1 1, .slice (some ⟨H + 1, 0, none⟩) 1 1] 34)) (some ⟨H + 1 + 1, 0, none⟩) [⟨[n], some ⟨H, 0, none⟩, 1⟩, ⟨[m], some ⟨H + 1, 0, none⟩, 1⟩] := by
  subst hH
  have n1 := Nums.new w [n] 3 w.heap.size rfl (by simpa using hn) (by simp)
  have n2 := Nums.new (w.alloc (.cells #[iV n] 3)) [m] 3 (w.heap.size + 1) (by simp) (by simpa using hm) (by simp)
  refine ⟨?_, fun x hx => ?_, by simp⟩
  · have := Rd.new ((w.alloc (.cells #[iV n] 3)).alloc (.cells #[iV m] 3)) [.slice (some ⟨w.heap.size, 0, none⟩) 1 1, .slice (some ⟨w.heap.size + 1, 0, none⟩) 1 1] 34
    rw [show ((w.alloc (.cells #[iV n] 3)).alloc (.cells #[iV m] 3)).heap.size = w.heap.size + 1 + 1 by simp] at this
    exact this
  · simp only [List.mem_cons, List.not_mem_nil, or_false] at hx
    rcases hx with rfl | rfl
    · exact (n1.below (ba _ _)).below (ba _ _)
    · exact n2.below (ba _ _)
/-- A call of See with the right token, whose outcome is known. -/
theorem see_known (s : Int) (l : List UInt8) (AE AW : Option Addr) (cE cW : Nat) (evs : List EvC) (ws : List NsC) (es : List Ev) (nss : List (List Int)) (o : List Sight) (w w0 : World) (hs : I64 s) (hl : l.length ≤ 1000) (hE : Events w0 AE evs) (hb : Below w0.heap.size w0 w) (hW : Worlds w AW ws) (he : evsOf evs = es) (hn : nsOf ws = nss) (ho : Seen es nss o) :
    Calls Try.prog 11 #[iV s, iV (tok s l), sV l, .slice AE evs.length cE, .slice AW ws.length cW] w fun e w' => ∃ A c, e = .returned (.tuple #[.slice A (List.length o) c, .int .i64 0]) ∧ Rd w' A (o.flatMap encS) ∧ Below w.heap.size w w' := by
  refine (see_ok s l AE AW cE cW evs ws w hs hl (hE.below hb) hW).mono ?_
  rintro e w' ⟨A, c, o', rfl, h1, _, h3, h4⟩
  rw [he, hn] at h3
  rw [seen_ext h3 ho] at h1 ⊢
  exact ⟨A, c, rfl, h1, h4⟩
theorem tok_ex : tok 7 [65] = dsum [7, 65] := by
  unfold tok toks
  simp
theorem tok_lt (s : Int) (l : List UInt8) : 0 ≤ tok s l ∧ tok s l < 2147483647 := dsum_lt _ _ (by decide)
set_option maxHeartbeats 4000000 in
set_option maxRecDepth 100000 in
theorem head_any (w : World) : Calls Try.prog 8 #[] w fun e w' => e = .returned (.bool true) ∧ Below w.heap.size w w' := by
  obtain ⟨t0, t1⟩ := tok_lt 7 [65]
  have t2 : (tok 7 [65] == dsum [7, 65]) = true := by rw [tok_ex]; simp
  have t3 : tok 7 [65] + 1 ≠ tok 7 [65] := by omega
  have HT3 := Lib.hid t3; clear t3
  go_enter Try.func8, Try.ntmps8
  go_wp2_with fail
  refine (example_any _).mono ?_
  rintro e w1 ⟨A, c, evs, rfl, he, hE, hb1⟩
  have HEq := Lib.hid he; have HE := Lib.hid hE; have HB1 := Lib.hid hb1; clear he hE hb1
  go_wp2_with fail
  refine (token_any 7 [65] _ (by simp [I64]) (by simp)).mono ?_
  rintro e w2 ⟨rfl, hb2⟩
  have HB2 := Lib.hid hb2; clear hb2
  go_wp2_with fail
  have b3 : Below w1.heap.size w1 ((w2.alloc (.cells #[iV 0, iV 1, iV 2] 39)).alloc (.cells #[iV 1, iV 5, iV 9] 39)) := bt HB2.out (bt (ba w2 _) (ba _ _))
  have c0 := news_at w2 (encS sg1) 39 w2.heap.size rfl
  have c1 := news_at (w2.alloc (.cells (encS sg1).toArray 39)) (encS sg2) 39 (w2.heap.size + 1) (by simp)
  have c0 := news_in c0 (.cells (encS sg2).toArray 39) (by simp)
  change ∀ j u, (encS sg1)[j]? = some u → World.cell? ((w2.alloc (.cells #[iV 0, iV 1, iV 2] 39)).alloc (.cells #[iV 1, iV 5, iV 9] 39)) _ = _ at c0
  change ∀ j u, (encS sg2)[j]? = some u → World.cell? ((w2.alloc (.cells #[iV 0, iV 1, iV 2] 39)).alloc (.cells #[iV 1, iV 5, iV 9] 39)) _ = _ at c1
  have hz3 : ((w2.alloc (.cells #[iV 0, iV 1, iV 2] 39)).alloc (.cells #[iV 1, iV 5, iV 9] 39)).heap.size = w2.heap.size + 1 + 1 := by simp
  have cA : ∀ j u, (encS sg1)[j]? = some u → World.cell? ((w2.alloc (.cells #[iV 0, iV 1, iV 2] 39)).alloc (.cells #[iV 1, iV 5, iV 9] 39)) ⟨w2.heap.size, 0 + j, none⟩ = some u := fun j u h => by have := c0 j u h; rwa [add_at] at this
  have cB : ∀ j u, (encS sg2)[j]? = some u → World.cell? ((w2.alloc (.cells #[iV 0, iV 1, iV 2] 39)).alloc (.cells #[iV 1, iV 5, iV 9] 39)) ⟨w2.heap.size + 1, 0 + j, none⟩ = some u := fun j u h => by have := c1 j u h; rwa [add_at] at this
  clear c0 c1
  change Calls Try.prog _ _ (World.alloc (World.alloc ((w2.alloc (.cells #[iV 0, iV 1, iV 2] 39)).alloc (.cells #[iV 1, iV 5, iV 9] 39)) _) _) _
  generalize ((w2.alloc (.cells #[iV 0, iV 1, iV 2] 39)).alloc (.cells #[iV 1, iV 5, iV 9] 39)) = W at *
  rw [← hz3]
  have hzA : w2.heap.size < W.heap.size := by omega
  have hzB : w2.heap.size + 1 < W.heap.size := by omega
  generalize w2.heap.size = p1 at *
  have HB3 := Lib.hid b3
  have HCA := Lib.hid cA
  have HCB := Lib.hid cB
  clear hz3 b3 cA cB
  refine (see_known 7 [65] A _ c _ evs [⟨[4], some ⟨W.heap.size, 0, none⟩, 1⟩] exE [[4]] [sg1, sg2] _ w1 (by simp [I64]) (by simp) HE.out (bt HB3.out (bt (ba W _) (ba _ _))) (worlds1 W 4 (by simp [I64]) W.heap.size rfl) HEq.out rfl ex1).mono ?_
  rintro e w4 ⟨A1, c1, rfl, r1, b4⟩
  have HR1 := Lib.hid r1
  have HB4 := Lib.hid (bt (bt (ba W (.cells #[iV 4] 3)) (ba _ _)) b4)
  clear r1 b4
  go_wp2_with fail
  refine (see_known 7 [65] A _ c _ evs [⟨[1], some ⟨w4.heap.size, 0, none⟩, 1⟩, ⟨[2], some ⟨w4.heap.size + 1, 0, none⟩, 1⟩] exE [[1], [2]] [sg2] _ w1 (by simp [I64]) (by simp) HE.out (bt (bt HB3.out HB4.out) (bt (ba w4 _) (bt (ba _ _) (ba _ _)))) (worlds2 w4 1 2 (by simp [I64]) (by simp [I64]) w4.heap.size rfl) HEq.out rfl ex2).mono ?_
  rintro e w5 ⟨A2, c2, rfl, r1, b4⟩
  have HR2 := Lib.hid r1
  have HB5 := Lib.hid (bt (bt (ba w4 (.cells #[iV 1] 3)) (bt (ba _ (.cells #[iV 2] 3)) (ba _ _))) b4)
  clear r1 b4
  go_wp2_with fail
  refine (see_known 7 [65] A _ c _ evs [⟨[0], some ⟨w5.heap.size, 0, none⟩, 1⟩, ⟨[3], some ⟨w5.heap.size + 1, 0, none⟩, 1⟩] exE [[0], [3]] [sg1] _ w1 (by simp [I64]) (by simp) HE.out (bt (bt (bt HB3.out HB4.out) HB5.out) (bt (ba w5 _) (bt (ba _ _) (ba _ _)))) (worlds2 w5 0 3 (by simp [I64]) (by simp [I64]) w5.heap.size rfl) HEq.out rfl ex3).mono ?_
  rintro e w6 ⟨A3, c3, rfl, r1, b4⟩
  have HR3 := Lib.hid r1
  have HB6 := Lib.hid (bt (bt (ba w5 (.cells #[iV 0] 3)) (bt (ba _ (.cells #[iV 3] 3)) (ba _ _))) b4)
  clear r1 b4
  go_wp2_with fail
  refine (see_known 7 [65] A none c 0 evs [] exE [] [] _ w1 (by simp [I64]) (by simp) HE.out (bt (bt (bt HB3.out HB4.out) HB5.out) HB6.out) ⟨Rd.nil _ _, fun x hx => (by cases hx), by simp⟩ HEq.out rfl (seen_none _)).mono ?_
  rintro e w7 ⟨A4, c4, rfl, r1, b4⟩
  have HB7 := Lib.hid b4
  clear r1 b4
  go_wp2_with fail
  refine (see_bad 7 (tok 7 [65] + 1) [65] A _ c _ _ _ _ (by simp [I64]) (by simp) HT3.out).mono ?_
  rintro e w8 ⟨rfl, b4⟩
  have HB8 := Lib.hid (bt (bt (ba w7 (.cells #[iV 4] 3)) (ba _ _)) b4)
  clear b4
  have HW8 := Lib.hid (bt (bt (bt (bt HB4.out HB5.out) HB6.out) HB7.out) HB8.out)
  have HR1 := Lib.hid ((((HR1.out.below HB5.out).below HB6.out).below HB7.out).below HB8.out)
  have HR2 := Lib.hid (((HR2.out.below HB6.out).below HB7.out).below HB8.out)
  have HR3 := Lib.hid ((HR3.out.below HB7.out).below HB8.out)
  have HB9 := Lib.hid (bt (bt HB1.out HB3.out) HW8.out)
  have d0 : w8.cell? ⟨p1, 0, none⟩ = some (iV 0) := (HW8.out.cell (p := ⟨p1, 0, none⟩) hzA).trans (HCA.out 0 _ rfl)
  have d1 : w8.cell? ⟨p1, 1, none⟩ = some (iV 1) := (HW8.out.cell (p := ⟨p1, 1, none⟩) hzA).trans (HCA.out 1 _ rfl)
  have d2 : w8.cell? ⟨p1, 2, none⟩ = some (iV 2) := (HW8.out.cell (p := ⟨p1, 2, none⟩) hzA).trans (HCA.out 2 _ rfl)
  have e0 : w8.cell? ⟨p1 + 1, 0, none⟩ = some (iV 1) := (HW8.out.cell (p := ⟨p1 + 1, 0, none⟩) hzB).trans (HCB.out 0 _ rfl)
  have e1 : w8.cell? ⟨p1 + 1, 1, none⟩ = some (iV 5) := (HW8.out.cell (p := ⟨p1 + 1, 1, none⟩) hzB).trans (HCB.out 1 _ rfl)
  have e2 : w8.cell? ⟨p1 + 1, 2, none⟩ = some (iV 9) := (HW8.out.cell (p := ⟨p1 + 1, 2, none⟩) hzB).trans (HCB.out 2 _ rfl)
  have hz8 := HW8.out.size
  have hp1 : p1 < w8.heap.size := by omega
  have hp2 : p1 + 1 < w8.heap.size := by omega
  clear HB1 HB2 HB3 HB4 HB5 HB6 HB7 HB8 HW8 HE HEq HCA HCB hzA hzB hz8
  go_wp2_with fail
  refine (same_any [sg1, sg2] [sg1, sg2] A1 (some ⟨w8.heap.size, 0, none⟩) c1 2 _ (HR1.out.below (ba _ _)) (Rd.new w8 ([sg1, sg2].flatMap encS) _) (by simp) (by simp)).mono ?_
  rintro e w9 ⟨rfl, hq⟩
  have B9 := Lib.hid (bt (ba w8 (.cells ([sg1, sg2].flatMap encS).toArray 39)) (below_dq hq))
  have d0 := (B9.out.cell (p := ⟨p1, 0, none⟩) hp1).trans d0
  have d1 := (B9.out.cell (p := ⟨p1, 1, none⟩) hp1).trans d1
  have d2 := (B9.out.cell (p := ⟨p1, 2, none⟩) hp1).trans d2
  have e0 := (B9.out.cell (p := ⟨p1 + 1, 0, none⟩) hp2).trans e0
  have e1 := (B9.out.cell (p := ⟨p1 + 1, 1, none⟩) hp2).trans e1
  have e2 := (B9.out.cell (p := ⟨p1 + 1, 2, none⟩) hp2).trans e2
  have hp1 := Nat.lt_of_lt_of_le hp1 B9.out.size
  have hp2 := Nat.lt_of_lt_of_le hp2 B9.out.size
  clear hq
  go_wp2_with fail
  refine (same_any [sg2] [sg2] A2 (some ⟨w9.heap.size, 0, none⟩) c2 1 _ ((HR2.out.below B9.out).below (ba _ _)) (Rd.new w9 ([sg2].flatMap encS) _) (by simp) (by simp)).mono ?_
  rintro e w10 ⟨rfl, hq⟩
  have B10 := Lib.hid (bt (ba w9 (.cells ([sg2].flatMap encS).toArray 39)) (below_dq hq))
  have d0 := (B10.out.cell (p := ⟨p1, 0, none⟩) hp1).trans d0
  have d1 := (B10.out.cell (p := ⟨p1, 1, none⟩) hp1).trans d1
  have d2 := (B10.out.cell (p := ⟨p1, 2, none⟩) hp1).trans d2
  clear hq
  go_wp2_with fail
  refine (same_any [sg1] [sg1] A3 (some ⟨w10.heap.size, 0, none⟩) c3 1 _ (((HR3.out.below B9.out).below B10.out).below (ba _ _)) (Rd.new w10 ([sg1].flatMap encS) _) (by simp) (by simp)).mono ?_
  rintro e w11 ⟨rfl, hq⟩
  have B11 := Lib.hid (bt (ba w10 (.cells ([sg1].flatMap encS).toArray 39)) (below_dq hq))
  clear hq
  go_wp2_with fail
  refine (dig_any [7, 65] (some ⟨w11.heap.size, 0, none⟩) 2 _ (Rd.new w11 ([7, 65].map iV) _) (by simp [I64]) (by simp)).mono ?_
  rintro e w12 ⟨rfl, rfl⟩
  go_wp2
  go_ret
  exact ⟨rfl, bt (bt (bt HB9.out B9.out) B10.out) (bt B11.out (ba _ _))⟩
end Go.Proofs.Ytpmogdddngbneaa
