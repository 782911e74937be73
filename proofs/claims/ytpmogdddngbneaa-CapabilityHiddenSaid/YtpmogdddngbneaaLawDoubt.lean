/-
  CapabilityDoubt: the walk.
-/
import Derived.Test.YtpmogdddngbneaaLawMatches
import Derived.IntWalk
import Derived.Outline
namespace Go.Proofs.Ytpmogdddngbneaa
open Go.RowKit Go.Sort
attribute [local go_sem] sgG

theorem own_rdk {w : World} {base : Nat} {e : TypeId} {k n c : Nat} {A : Option Addr} {xs : List Value} (h : w.ownsRow base e k (.slice A n c) n xs) : Rd w A xs := by
  rcases h.2 with ⟨h1, h2⟩ | ⟨g, cap, cur, hv, hg, hgr, h3, h4, _⟩
  · exact .inl (List.eq_nil_of_length_eq_zero (by rw [h.1, h2, Nat.zero_mul]))
  · cases hv
    refine .inr ⟨g, 0, rfl, block_lt hgr, fun i u hu => ?_⟩
    have := h.cells (g := g) rfl i u hu
    rwa [add_at] at this
theorem src_kA {P : Program} {w : World} {tx e' : TypeId} (size : Nat) (h0 : 0 < size) (hk : P.underlying tx = some (.slice e')) {A : Option Addr} {m c : Nat} {xs : List Value} (h : Rd w A xs) (hn : xs.length = m * size) (h1 : ∀ u ∈ xs, u.oneCell' = true) : Src P size tx (.slice A m c) m xs w := by
  rcases h with rfl | ⟨b, off, rfl, hb, hc⟩
  · obtain rfl : m = 0 := by
      rcases Nat.eq_zero_or_pos m with h | h
      · exact h
      · have := Nat.mul_pos h h0; simp at hn; omega
    cases A with
    | none => exact Src.ofNil w hk c
    | some a => exact Src.ofSlice w hk a 0 c [] (by simp) (fun j u hu => by simp at hu) (fun u hu => by cases hu)
  · refine Src.ofSlice w hk _ m c xs (by omega) (fun j u hu => ?_) h1
    rw [show (⟨b, off, none⟩ : Addr).add j = ⟨b, off + j, none⟩ by rw [add_at]]
    exact hc j u hu
theorem eventInf : (Try.prog.info? 42).map (fun i => (i.zero, i.size, i.bytes)) = some (some (.agg #[iV 0, iV 0, iV 0, .slice none 0 0]), 4, 48) := by kernel_rfl
theorem numsInf : (Try.prog.info? 34).map (fun i => (i.zero, i.size, i.bytes)) = some (some (.slice none 0 0), 1, 24) := by kernel_rfl
theorem one_ev (l : List EvC) : ∀ u ∈ l.flatMap encE, u.oneCell' = true := by
  intro u hu
  obtain ⟨s, _, h⟩ := List.mem_flatMap.1 hu
  simp only [encE, List.mem_cons, List.not_mem_nil, or_false] at h
  rcases h with rfl | rfl | rfl | rfl <;> rfl
theorem one_sl (l : List NsC) : ∀ u ∈ l.map slI, u.oneCell' = true := by
  intro u hu
  obtain ⟨s, _, rfl⟩ := List.mem_map.1 hu
  rfl
theorem wpList_app0 {P : Program} {w : World} {ops : Array Oper} {rest : List Oper} {o : Oper} {a : Act} {Q : Exit → Act → World → Prop} (hgd : o.guard = none) (s x : Operand) (t tx : TypeId)
    (ho : o.op = .call { callee := .builtin .append, args := #[s, x], argTypes := #[t, tx] })
    (base : Nat) (e : TypeId) (i : TypeInfo) (z : Value) (size bytes : Nat) (ht : P.underlying t = some (.slice e)) (hi : P.info? e = some i) (hz : i.zero = some z)
    (hsize : i.size = size) (hby : i.bytes = bytes) (hzs : z.cells.size = size)
    (v : Value) (hs : a.eval s = v) (hown : w.ownsRow base e size v 0 []) (vx : Value) (hx : a.eval x = vx) (m : Nat) (news : List Value) (hsrc : Src P size tx vx m news w)
    (h63 : m ≤ maxLen) (hbytes : m * bytes ≤ 140737488355328) (hbase : base ≤ w.heap.size)
    (h : ∀ A c w', w'.ownsRow base e size (.slice A m c) m news → w.grownBy w' v.ownBlock → wpList P ops Q rest (a.put o.dst (.slice A m c)) w') : wpList P ops Q (o :: rest) a w :=
  wpList_app hgd s x t tx ho base e i z size bytes ht hi hz hsize hby hzs v 0 [] hs hown vx hx m news hsrc (by omega) (by rw [Nat.zero_add]; exact hbytes) hbase (fun A c w' h1 h2 _ => by
    rw [Nat.zero_add] at h1 ⊢
    exact h A c w' h1 h2)
theorem ev_len (l : List EvC) : (l.flatMap encE).length = l.length * 4 := flat_len encE 4 encE_len l
/-- Two lists of events, one behind the other. -/
theorem Events.app {w : World} {A B C : Option Addr} {es fs : List EvC} (h : Events w A es) (k : Events w B fs) (hr : Rd w C (es.flatMap encE ++ fs.flatMap encE)) (h8 : es.length ≤ 8) (h8' : fs.length ≤ 8) : Events w C (es ++ fs) :=
  ⟨by rw [List.flatMap_append]; exact hr, fun x hx => (List.mem_append.1 hx).elim (h.2.1 x) (k.2.1 x), by simp; omega⟩
theorem seen_twice {es : List EvC} {ws : List (List Int)} {o o2 : List Sight} (h : Seen (evsOf es) ws o) (k : Seen (evsOf (es ++ es)) ws o2) : o2 = o :=
  seen_ext k ⟨h.1, fun s => (h.2 s).trans (by unfold IsSeen; simp [evsOf])⟩
theorem seen_more {es fs : List EvC} {ws : List (List Int)} {o o2 : List Sight} (h : Seen (evsOf es) ws o) (k : Seen (evsOf (es ++ fs)) ws o2) : ∀ s ∈ o, s ∈ o2 := fun s hs =>
  (k.2 s).2 (by
    obtain ⟨h0, e, he, h1, h2⟩ := (h.2 s).1 hs
    refine ⟨h0, e, ?_, h1, h2⟩
    rw [evsOf, List.map_append]
    exact List.mem_append_left _ he)
theorem seen_fewer {es : List EvC} {ws ws' : List NsC} {o o2 : List Sight} (h : Seen (evsOf es) (nsOf ws) o) (k : Seen (evsOf es) (nsOf ws') o2) (h0 : ws' ≠ []) (hs : ∀ x ∈ ws', x ∈ ws) : ∀ s ∈ o, s ∈ o2 := fun s hm =>
  (k.2 s).2 (by
    obtain ⟨_, e, he, h1, h2⟩ := (h.2 s).1 hm
    refine ⟨fun e => h0 (by simpa [nsOf] using e), e, he, h1, ?_⟩
    unfold sureB at h2 ⊢
    rw [List.all_eq_true] at h2 ⊢
    intro x hx
    obtain ⟨y, hy, rfl⟩ := List.mem_map.1 hx
    exact h2 _ (List.mem_map.2 ⟨y, hs y hy, rfl⟩))
theorem Worlds.but {w : World} {A B : Option Addr} {ws : List NsC} (h : Worlds w A ws) (k : Nat) (hr : Rd w B ((ws.take k).map slI ++ (ws.drop (k + 1)).map slI)) : Worlds w B (ws.take k ++ ws.drop (k + 1)) :=
  ⟨by rw [List.map_append]; exact hr, fun x hx => (List.mem_append.1 hx).elim (fun hx => h.2.1 x (List.mem_of_mem_take hx)) (fun hx => h.2.1 x (List.mem_of_mem_drop hx)), by have := h.2.2; simp; omega⟩
theorem but_len {ws : List NsC} {k : Nat} (hk : k < ws.length) : (ws.take k ++ ws.drop (k + 1)).length = ws.length - 1 := by simp; omega
theorem but_in {ws : List NsC} {k : Nat} : ∀ x ∈ ws.take k ++ ws.drop (k + 1), x ∈ ws := fun x hx => (List.mem_append.1 hx).elim List.mem_of_mem_take List.mem_of_mem_drop
set_option maxHeartbeats 8000000 in
set_option maxRecDepth 100000 in
theorem doubt_main (s x : Int) (l : List UInt8) (AE AM AW : Option Addr) (cE cM cW : Nat) (evs more : List EvC) (ws : List NsC) (w : World) (hs : I64 s) (hl : l.length ≤ 40) (hE : Events0 w AE evs) (hM : Events0 w AM more) (hW : Worlds0 w AW ws) (h8 : evs.length ≤ 8) (h8' : more.length ≤ 8) (hF : fewB evs ws = true) (hF2 : fewB more [] = true) (hx0 : 0 ≤ x) (hx1 : x ≤ 255) (hcW : ws.length ≤ cW) (hcm : cW ≤ maxLen) :
    Calls Try.prog 7 #[iV s, sV l, .slice AE evs.length cE, .slice AM more.length cM, .slice AW ws.length cW, .int .u8 x] w fun e w' => e = .returned (.bool true) ∧ Below w.heap.size w w' := by
  obtain ⟨i0, hi0, hz0, hz1, hz2⟩ := info_parts eventInf
  obtain ⟨j0, hj0, hy0, hy1, hy2⟩ := info_parts numsInf
  obtain ⟨f1, f2, f3, f4⟩ := few_all hF
  obtain ⟨g1, _, g3, _⟩ := few_all hF2
  have CF : Hid (∀ w', Below w.heap.size w w' → Calls Try.prog 9 #[.slice AE evs.length cE, .slice AW ws.length cW] w' fun e w2 => e = .returned (.bool true) ∧ w' = w2) := fun w' hb => by
    have := few_any evs ws AE AW cE cW w' (hE.below hb) (hW.below hb)
    rwa [hF] at this
  have CF2 : Hid (∀ w', Below w.heap.size w w' → Calls Try.prog 9 #[.slice AM more.length cM, .slice none 0 0] w' fun e w2 => e = .returned (.bool true) ∧ w' = w2) := fun w' hb => by
    have := few_any more [] AM none cM 0 w' (hM.below hb) ⟨Rd.nil _ _, fun x hx => (by cases hx), by simp⟩
    rwa [hF2] at this
  have HE := Lib.hid (hE.few f1 f3)
  have HM := Lib.hid (hM.few g1 g3)
  have HW := Lib.hid (hW.few f2 f4)
  have HI := Lib.hid hs
  have HCM := Lib.hid hcm
  have hcm' : cW ≤ 9223372036854775807 := by unfold maxLen at hcm; exact hcm
  have h40 : ¬ (40 : Int) < (l.length : Int) := by omega
  have h81 : ¬ (8 : Int) < (evs.length : Int) := by omega
  have h82 : ¬ (8 : Int) < (more.length : Int) := by omega
  clear f1 f2 g1 g3 hF hF2 hE hM hW hs hcm
  go_enter Try.func7, Try.ntmps7
  go_wp2_with fail
  refine (head_any _).mono ?_
  rintro e w1 ⟨rfl, hb1⟩
  have HB1 := Lib.hid hb1; clear hb1
  go_wp2_with fail
  refine (CF.out _ HB1.out).mono ?_
  rintro e w2 ⟨rfl, rfl⟩
  go_wp2_with fail
  refine (CF2.out _ HB1.out).mono ?_
  rintro e w2 ⟨rfl, rfl⟩
  go_wp2_with fail
  refine (token_any s l _ HI.out (by omega)).mono ?_
  rintro e w2 ⟨rfl, hb2⟩
  have HB2 := Lib.hid (bt HB1.out hb2); clear hb2
  go_wp2_with fail
  refine (see_ok s l AE AW cE cW evs ws _ HI.out (by omega) (HE.out.below HB2.out) (HW.out.below HB2.out)).mono ?_
  rintro e w3 ⟨A1, c1, o, rfl, hr1, hl1, hsn, hb2⟩
  have HB3 := Lib.hid (bt HB2.out hb2)
  have HR := Lib.hid hr1
  have HSN := Lib.hid hsn
  clear hb2 hr1 hsn HB1 HB2 CF CF2
  go_wp2_with (first
    | (at_builtin; refine wpList_app0 (by rfl) (.tmp 68) (.tmp 69) _ _ (by rfl) w3.heap.size 42 i0 _ 4 48 Try.underlying22 hi0 hz0 hz1 hz2 (by rfl) _ (by rfl) (own_none w3 42 4 _ _ rfl (Nat.le_refl _)) _ (by rfl) evs.length (evs.flatMap encE) (src_kA 4 (by decide) Try.underlying22 (HE.out.below (bt HB3.out (ba w3 _))).1 (ev_len evs) (one_ev _)) (by unfold maxLen; omega) (by omega) (by simp) ?_; intro A4 c4 w4 hown4 hgrow4; have HO4 := Lib.hid hown4; have HX4 := Lib.hid (app_below (ba w3 (.cells #[] 42)) (Nat.le_refl _) (own_none w3 42 4 _ _ rfl (Nat.le_refl _)) (Nat.le_refl _) hgrow4); have HZ4 := Lib.hid HX4.out.size; have HB4 := Lib.hid (bt HB3.out HX4.out); clear hown4 hgrow4)
    | (at_builtin; refine wpList_app (by rfl) (.tmp 70) (.tmp 71) _ _ (by rfl) w3.heap.size 42 i0 _ 4 48 Try.underlying22 hi0 hz0 hz1 hz2 (by rfl) _ evs.length (evs.flatMap encE) (by rfl) HO4.out _ (by rfl) evs.length (evs.flatMap encE) (src_kA 4 (by decide) Try.underlying22 (HE.out.below HB4.out).1 (ev_len evs) (one_ev _)) (by unfold maxLen; omega) (by omega) HZ4.out ?_; intro A5 c5 w5 hown5 hgrow5 _; have HO5 := Lib.hid hown5; have HY5 := Lib.hid (app_below HX4.out (Nat.le_refl _) HO4.out (Nat.le_refl _) hgrow5); have HB5 := Lib.hid (bt HB3.out HY5.out); clear hown5 hgrow5))
  have HE5 := Lib.hid (Events.app (HE.out.below HB5.out) (HE.out.below HB5.out) (own_rdk HO5.out) h8 h8)
  have CS := see_ok s l A5 AW c5 cW (evs ++ evs) ws w5 HI.out (by omega) HE5.out (HW.out.below HB5.out)
  rw [List.length_append] at CS
  have CS := Lib.hid CS
  clear HO4 HO5 HZ4 HX4 HE5 HB4
  go_wp2_with fail
  refine CS.out.mono ?_
  rintro e w6 ⟨A6, c6, o6, rfl, hr6, hl6, hsn6, hb6⟩
  obtain rfl := seen_twice HSN.out hsn6
  have HB6 := Lib.hid (bt HB5.out hb6)
  have HB36 := Lib.hid (bt HY5.out hb6)
  have HR6 := Lib.hid hr6
  clear hb6 hr6 hsn6 CS
  go_wp2_with (first
    | (at_builtin; refine wpList_app0 (by rfl) (.tmp 81) (.tmp 82) _ _ (by rfl) w6.heap.size 42 i0 _ 4 48 Try.underlying22 hi0 hz0 hz1 hz2 (by rfl) _ (by rfl) (own_none w6 42 4 _ _ rfl (Nat.le_refl _)) _ (by rfl) evs.length (evs.flatMap encE) (src_kA 4 (by decide) Try.underlying22 (HE.out.below (bt HB6.out (ba w6 _))).1 (ev_len evs) (one_ev _)) (by unfold maxLen; omega) (by omega) (by simp) ?_; intro A7 c7 w7 hown7 hgrow7; have HO7 := Lib.hid hown7; have HX7 := Lib.hid (app_below (ba w6 (.cells #[] 42)) (Nat.le_refl _) (own_none w6 42 4 _ _ rfl (Nat.le_refl _)) (Nat.le_refl _) hgrow7); have HZ7 := Lib.hid HX7.out.size; have HB7 := Lib.hid (bt HB6.out HX7.out); clear hown7 hgrow7)
    | (at_builtin; refine wpList_app (by rfl) (.tmp 83) (.tmp 84) _ _ (by rfl) w6.heap.size 42 i0 _ 4 48 Try.underlying22 hi0 hz0 hz1 hz2 (by rfl) _ evs.length (evs.flatMap encE) (by rfl) HO7.out _ (by rfl) more.length (more.flatMap encE) (src_kA 4 (by decide) Try.underlying22 (HM.out.below HB7.out).1 (ev_len more) (one_ev _)) (by unfold maxLen; omega) (by omega) HZ7.out ?_; intro A8 c8 w8 hown8 hgrow8 _; have HO8 := Lib.hid hown8; have HY8 := Lib.hid (app_below HX7.out (Nat.le_refl _) HO7.out (Nat.le_refl _) hgrow8); have HB8 := Lib.hid (bt HB6.out HY8.out); clear hown8 hgrow8))
  have HE8 := Lib.hid (Events.app (HE.out.below HB8.out) (HM.out.below HB8.out) (own_rdk HO8.out) h8 h8')
  have CS := see_ok s l A8 AW c8 cW (evs ++ more) ws w8 HI.out (by omega) HE8.out (HW.out.below HB8.out)
  rw [List.length_append] at CS
  have CS := Lib.hid CS
  clear HO7 HO8 HZ7 HX7 HE8 HB7
  go_wp2_with fail
  refine CS.out.mono ?_
  rintro e w9 ⟨A9, c9, o9, rfl, hr9, hl9, hsn9, hb9⟩
  have HALL := Lib.hid (seen_more HSN.out hsn9)
  have HB9 := Lib.hid (bt HB8.out hb9)
  have HB68 := HY8
  have HR9 := Lib.hid hr9
  have HR69 := Lib.hid ((HR6.out.below HB68.out).below hb9)
  have HR39 := Lib.hid (((HR.out.below HB36.out).below HB68.out).below hb9)
  clear hb9 hr9 hsn9 CS HR HR6
  have CS := same_any o6 o6 A1 A6 c1 c6 w9 HR39.out HR69.out hl6 hl6
  rw [show decide (o6 = o6) = true from decide_eq_true rfl] at CS
  have CS := Lib.hid CS
  go_wp2_with fail
  refine CS.out.mono ?_
  rintro e w10 ⟨rfl, hq10⟩
  have HB10 := Lib.hid (bt HB9.out (below_dq hq10))
  have HRs := Lib.hid (HR39.out.below (below_dq hq10))
  have HRa := Lib.hid (HR9.out.below (below_dq hq10))
  clear hq10 CS HR39 HR69 HR9 HB36 HB68 HY8 HY5 HB8 HB6 HB5 HB9 HB3
  by_cases h1 : 1 < ws.length
  · obtain ⟨k, hk⟩ : ∃ k : Nat, x % (ws.length : Int) = (k : Int) := ⟨(x % (ws.length : Int)).toNat, by have := Int.emod_nonneg x (show (ws.length : Int) ≠ 0 by omega); omega⟩
    have hkl : k < ws.length := by have := Int.emod_lt_of_pos x (show (0 : Int) < (ws.length : Int) by omega); omega
    obtain ⟨bW, oW, rfl, hbW, _⟩ := (HW.out.below HB10.out).1.get (i := 0) (by simp; omega)
    have i0_ : ¬ (ws.length : Int) ≤ 1 := by omega
    have i1 : (1 : Int) < (ws.length : Int) := by omega
    go_wp2
    rw [hk]
    have i3 : (0 : Int) ≤ (k : Int) := by omega
    have i4 : (k : Int) ≤ (cW : Int) := by omega
    have i5 : (k : Int) + 1 ≤ (ws.length : Int) := by omega
    have i6 : (ws.length : Int) ≤ (cW : Int) := by omega
    have i7 : (k : Int) + 1 ≤ (cW : Int) := by omega
    have i8 : (0 : Int) ≤ (k : Int) + 1 := by omega
    have HLt : Hid (((ws.take k).map slI).length = k * 1) := by show _ = _; simp; omega
    have HLd : Hid (((ws.drop (k + 1)).map slI).length = (ws.length - (k + 1)) * 1) := by show _ = _; simp
    have HRt : Hid (∀ w', Below w10.heap.size w10 w' → Rd w' (some ⟨bW, oW, none⟩) ((ws.take k).map slI)) := fun w' h => by
      have := ((HW.out.below HB10.out).1.below h).take k
      rwa [← List.map_take] at this
    have HWB := Lib.hid (HW.out.below HB10.out)
    have HLL : Hid ((ws.take k ++ ws.drop (k + 1)).length = k + (ws.length - (k + 1))) := by show _ = _; simp; omega
    have HNE : Hid (ws.take k ++ ws.drop (k + 1) ≠ []) := fun e => by have h0 := but_len hkl; rw [e] at h0; simp only [List.length_nil] at h0; omega
    have HK := Lib.hid hk
    have w1_ : IntKind.i64.wrap ((k : Int) + 1) = (k : Int) + 1 := IntWalk.i64_in _ (by omega)
    have w2_ : ((k : Int) + 1).toNat = k + 1 := by omega
    clear hk
    by_cases hck : cW = k + 1
    · have HRd : Hid (∀ w', Below w10.heap.size w10 w' → Rd w' (some ⟨bW, oW, none⟩) ((ws.drop (k + 1)).map slI)) := fun w' h => by
        rw [List.drop_of_length_le (by omega)]; exact Rd.nil _ _
      obtain rfl : cW = ws.length := by omega
      have HLd : Hid (((ws.drop (k + 1)).map slI).length = 0 * 1) := by show _ = _; rw [List.drop_of_length_le (by omega)]; rfl
      have HLL : Hid ((ws.take k ++ ws.drop (k + 1)).length = k + 0) := by show _ = _; simp; omega
      clear w1_ w2_
      have w1_ : IntKind.i64.wrap ((k : Int) + 1) = (ws.length : Int) := by rw [IntWalk.i64_in _ (by omega)]; omega
      clear hck
      go_region_held3 (fun w' => Below w10.heap.size w10 w') (first | exact hs2.out | exact hs1.out | exact (below_drewN (ba w10 (.cells #[] 34)) 1) | exact below_drewN (Below.refl _ _) 1)
        (first
          | (refine step_app (by rfl) (.tmp 119) (.tmp 123) 23 23 (by rfl) w10.heap.size 34 j0 _ 1 24 Try.underlying23 hj0 hy0 hy1 hy2 (by rfl) _ k ((ws.take k).map slI) (by rfl) HO1.out _ (by rfl) 0 ((ws.drop (k + 1)).map slI) (src_kA 1 (by decide) Try.underlying23 (HRd.out _ hs1.out) HLd.out (one_sl _)) (by unfold maxLen; omega) (by omega) hs1.out.size ?_; intro A11 c11 w11 hown11 hgrow11 _; have hs2 := Lib.hid (app_below hs1.out (Nat.le_refl _) HO1.out (Nat.le_refl _) hgrow11); have HO11 := Lib.hid hown11; clear hown11 hgrow11)
          | (refine step_app_nil (w := (World.alloc w10 (.cells #[] 34)).drew) (by rfl) (.tmp 115) (.tmp 118) 23 23 (by rfl) w10.heap.size 34 j0 _ 1 24 Try.underlying23 hj0 hy0 hy1 hy2 (by rfl) (.slice (some ⟨w10.heap.size, 0, none⟩) 0 0) (by rfl) (own_none w10 34 1 _ _ rfl (Nat.le_refl _)) _ (by rfl) k ((ws.take k).map slI) (src_kA 1 (by decide) Try.underlying23 (HRt.out _ (below_drewN (ba w10 (.cells #[] 34)) 1)) HLt.out (one_sl _)) (by unfold maxLen; omega) (by omega) (below_drewN (ba w10 (.cells #[] 34)) 1).size ?_; intro A1_ c1_ w1_ hown1_ hgrow1_ _; have hs1 := Lib.hid (app_below (below_drewN (ba w10 (.cells #[] 34)) 1) (Nat.le_refl _) (own_none w10 34 1 _ _ rfl (Nat.le_refl _)) (Nat.le_refl _) hgrow1_); have HO1 := Lib.hid hown1_; clear hown1_ hgrow1_)
          | fail)
      all_goals
        have HW11 := Lib.hid (Worlds.but (HWB.out.below hs2.out) k (own_rdk HO11.out))
        have CS := see_ok s l AE A11 cE c11 evs (ws.take k ++ ws.drop (k + 1)) w11 HI.out (by omega) (HE.out.below (bt HB10.out hs2.out)) HW11.out
        rw [HLL.out] at CS
        have CS := Lib.hid CS
        go_wp2_with fail
        refine CS.out.mono ?_
        rintro e w12 ⟨A12, c12, o12, rfl, hr12, hl12, hsn12, hb12⟩
        have HSUB := Lib.hid (seen_fewer HSN.out hsn12 HNE.out but_in)
        have HB12 := Lib.hid (bt (bt HB10.out hs2.out) hb12)
        have HRc := Lib.hid hr12
        have HRs2 := Lib.hid ((HRs.out.below hs2.out).below hb12)
        have HRa2 := Lib.hid ((HRa.out.below hs2.out).below hb12)
        clear hb12 hr12 hsn12 CS
        go_wp2
        go_loopw [25] (fun i wr => ∃ m : Nat, m ≤ o6.length ∧ i = iV m ∧ Hid (Below w12.heap.size w12 wr)) (fun i _ => o6.length - (intOf i).toNat)
        case atStart => exact ⟨0, Nat.zero_le _, rfl, Below.refl _ _⟩
        case round =>
          obtain ⟨m, hm, rfl, HB⟩ := hrel
          by_cases hlt : m < o6.length
          · obtain ⟨wo, rfl⟩ : ∃ wo : World, wo = wr := ⟨_, rfl⟩
            obtain ⟨b, off, rfl, hb, k0, k1, k2⟩ := sg_get (HRs2.out.below HB.out) hlt
            have i1 : (0 : Int) ≤ (m : Int) := by omega
            have i2 : (m : Int) < (o6.length : Int) := by omega
            have HIa := Lib.hid (HALL.out _ (List.getElem_mem hlt))
            have HIb := Lib.hid (HSUB.out _ (List.getElem_mem hlt))
            generalize o6[m] = sg at *
            have HSw : Hid (∀ w' : World, Below wo.heap.size wo w' → w'.cell? ⟨b, off + m * 3, none⟩ = some (iV sg.o) ∧ w'.cell? ⟨b, off + m * 3 + 1, none⟩ = some (iV sg.lo) ∧ w'.cell? ⟨b, off + m * 3 + 2, none⟩ = some (iV sg.hi)) := fun w' h =>
              ⟨(h.cell (p := ⟨b, off + m * 3, none⟩) hb).trans k0, (h.cell (p := ⟨b, off + m * 3 + 1, none⟩) hb).trans k1, (h.cell (p := ⟨b, off + m * 3 + 2, none⟩) hb).trans k2⟩
            have C1 := isin_any o9 sg A9 c9 wo (HRa2.out.below HB.out) hl9
            rw [decide_eq_true HIa.out] at C1
            have C1 := Lib.hid C1
            go_wp2_with fail
            refine C1.out.mono ?_
            rintro e w13 ⟨rfl, hb13⟩
            obtain ⟨q0, q1, q2⟩ := HSw.out _ hb13
            have HB13 := Lib.hid (bt HB.out hb13)
            clear hb13 C1 k0 k1 k2 HSw
            have C2 := isin_any o12 sg A12 c12 w13 (HRc.out.below HB13.out) hl12
            rw [decide_eq_true HIb.out] at C2
            have C2 := Lib.hid C2
            go_wp2_with fail
            refine C2.out.mono ?_
            rintro e w14 ⟨rfl, hb14⟩
            have HB14 := Lib.hid (bt HB13.out hb14)
            clear hb14
            go_wp2
            go_roundw
            case rel => exact ⟨m + 1, by omega, by go_num, HB14.out⟩
            case measure => simp [intOf]; omega
          · obtain rfl : m = o6.length := by omega
            go_wp2
            go_ret
            exact ⟨rfl, bt HB12.out HB.out⟩
    · have hck' : k + 1 < cW := by omega
      have i9 : ((k : Int) + 1 == (cW : Int)) = false := by simp; omega
      have i10 : (k : Int) + 1 < (cW : Int) := by omega
      have HRd : Hid (∀ w', Below w10.heap.size w10 w' → Rd w' (some ⟨bW, oW + (k + 1), none⟩) ((ws.drop (k + 1)).map slI)) := fun w' h => by
        have := ((HW.out.below HB10.out).1.below h).drop (k + 1)
        rwa [← List.map_drop] at this
      go_region_held3 (fun w' => Below w10.heap.size w10 w') (first | exact hs2.out | exact hs1.out | exact (below_drewN (ba w10 (.cells #[] 34)) 1) | exact below_drewN (Below.refl _ _) 1)
        (first
          | (refine step_app (by rfl) (.tmp 119) (.tmp 123) 23 23 (by rfl) w10.heap.size 34 j0 _ 1 24 Try.underlying23 hj0 hy0 hy1 hy2 (by rfl) _ k ((ws.take k).map slI) (by rfl) HO1.out _ (by rfl) (ws.length - (k + 1)) ((ws.drop (k + 1)).map slI) (src_kA 1 (by decide) Try.underlying23 (HRd.out _ hs1.out) HLd.out (one_sl _)) (by unfold maxLen; omega) (by omega) hs1.out.size ?_; intro A11 c11 w11 hown11 hgrow11 _; have hs2 := Lib.hid (app_below hs1.out (Nat.le_refl _) HO1.out (Nat.le_refl _) hgrow11); have HO11 := Lib.hid hown11; clear hown11 hgrow11)
          | (refine step_app_nil (w := (World.alloc w10 (.cells #[] 34)).drew) (by rfl) (.tmp 115) (.tmp 118) 23 23 (by rfl) w10.heap.size 34 j0 _ 1 24 Try.underlying23 hj0 hy0 hy1 hy2 (by rfl) (.slice (some ⟨w10.heap.size, 0, none⟩) 0 0) (by rfl) (own_none w10 34 1 _ _ rfl (Nat.le_refl _)) _ (by rfl) k ((ws.take k).map slI) (src_kA 1 (by decide) Try.underlying23 (HRt.out _ (below_drewN (ba w10 (.cells #[] 34)) 1)) HLt.out (one_sl _)) (by unfold maxLen; omega) (by omega) (below_drewN (ba w10 (.cells #[] 34)) 1).size ?_; intro A1_ c1_ w1_ hown1_ hgrow1_ _; have hs1 := Lib.hid (app_below (below_drewN (ba w10 (.cells #[] 34)) 1) (Nat.le_refl _) (own_none w10 34 1 _ _ rfl (Nat.le_refl _)) (Nat.le_refl _) hgrow1_); have HO1 := Lib.hid hown1_; clear hown1_ hgrow1_)
          | fail)
      all_goals
        have HW11 := Lib.hid (Worlds.but (HWB.out.below hs2.out) k (own_rdk HO11.out))
        have CS := see_ok s l AE A11 cE c11 evs (ws.take k ++ ws.drop (k + 1)) w11 HI.out (by omega) (HE.out.below (bt HB10.out hs2.out)) HW11.out
        rw [HLL.out] at CS
        have CS := Lib.hid CS
        go_wp2_with fail
        refine CS.out.mono ?_
        rintro e w12 ⟨A12, c12, o12, rfl, hr12, hl12, hsn12, hb12⟩
        have HSUB := Lib.hid (seen_fewer HSN.out hsn12 HNE.out but_in)
        have HB12 := Lib.hid (bt (bt HB10.out hs2.out) hb12)
        have HRc := Lib.hid hr12
        have HRs2 := Lib.hid ((HRs.out.below hs2.out).below hb12)
        have HRa2 := Lib.hid ((HRa.out.below hs2.out).below hb12)
        clear hb12 hr12 hsn12 CS
        go_wp2
        go_loopw [25] (fun i wr => ∃ m : Nat, m ≤ o6.length ∧ i = iV m ∧ Hid (Below w12.heap.size w12 wr)) (fun i _ => o6.length - (intOf i).toNat)
        case atStart => exact ⟨0, Nat.zero_le _, rfl, Below.refl _ _⟩
        case round =>
          obtain ⟨m, hm, rfl, HB⟩ := hrel
          by_cases hlt : m < o6.length
          · obtain ⟨wo, rfl⟩ : ∃ wo : World, wo = wr := ⟨_, rfl⟩
            obtain ⟨b, off, rfl, hb, k0, k1, k2⟩ := sg_get (HRs2.out.below HB.out) hlt
            have i1 : (0 : Int) ≤ (m : Int) := by omega
            have i2 : (m : Int) < (o6.length : Int) := by omega
            have HIa := Lib.hid (HALL.out _ (List.getElem_mem hlt))
            have HIb := Lib.hid (HSUB.out _ (List.getElem_mem hlt))
            generalize o6[m] = sg at *
            have HSw : Hid (∀ w' : World, Below wo.heap.size wo w' → w'.cell? ⟨b, off + m * 3, none⟩ = some (iV sg.o) ∧ w'.cell? ⟨b, off + m * 3 + 1, none⟩ = some (iV sg.lo) ∧ w'.cell? ⟨b, off + m * 3 + 2, none⟩ = some (iV sg.hi)) := fun w' h =>
              ⟨(h.cell (p := ⟨b, off + m * 3, none⟩) hb).trans k0, (h.cell (p := ⟨b, off + m * 3 + 1, none⟩) hb).trans k1, (h.cell (p := ⟨b, off + m * 3 + 2, none⟩) hb).trans k2⟩
            have C1 := isin_any o9 sg A9 c9 wo (HRa2.out.below HB.out) hl9
            rw [decide_eq_true HIa.out] at C1
            have C1 := Lib.hid C1
            go_wp2_with fail
            refine C1.out.mono ?_
            rintro e w13 ⟨rfl, hb13⟩
            obtain ⟨q0, q1, q2⟩ := HSw.out _ hb13
            have HB13 := Lib.hid (bt HB.out hb13)
            clear hb13 C1 k0 k1 k2 HSw
            have C2 := isin_any o12 sg A12 c12 w13 (HRc.out.below HB13.out) hl12
            rw [decide_eq_true HIb.out] at C2
            have C2 := Lib.hid C2
            go_wp2_with fail
            refine C2.out.mono ?_
            rintro e w14 ⟨rfl, hb14⟩
            have HB14 := Lib.hid (bt HB13.out hb14)
            clear hb14
            go_wp2
            go_roundw
            case rel => exact ⟨m + 1, by omega, by go_num, HB14.out⟩
            case measure => simp [intOf]; omega
          · obtain rfl : m = o6.length := by omega
            go_wp2
            go_ret
            exact ⟨rfl, bt HB12.out HB.out⟩
  · have i1 : ¬ (1 : Int) < (ws.length : Int) := by omega
    have CS := Lib.hid (see_ok s l AE AW cE cW evs ws w10 HI.out (by omega) (HE.out.below HB10.out) (HW.out.below HB10.out))
    go_wp2_with fail
    refine CS.out.mono ?_
    rintro e w12 ⟨A12, c12, o12, rfl, hr12, hl12, hsn12, hb12⟩
    have HSUB := Lib.hid (fun (y : Sight) (hy : y ∈ o6) => (show y ∈ o12 from (seen_ext hsn12 HSN.out).symm ▸ hy))
    have HB12 := Lib.hid (bt HB10.out hb12)
    have HRc := Lib.hid hr12
    have HRs2 := Lib.hid (HRs.out.below hb12)
    have HRa2 := Lib.hid (HRa.out.below hb12)
    clear hb12 hr12 hsn12 CS
    go_wp2
    go_loopw [25] (fun i wr => ∃ m : Nat, m ≤ o6.length ∧ i = iV m ∧ Hid (Below w12.heap.size w12 wr)) (fun i _ => o6.length - (intOf i).toNat)
    case atStart => exact ⟨0, Nat.zero_le _, rfl, Below.refl _ _⟩
    case round =>
      obtain ⟨m, hm, rfl, HB⟩ := hrel
      by_cases hlt : m < o6.length
      · obtain ⟨wo, rfl⟩ : ∃ wo : World, wo = wr := ⟨_, rfl⟩
        obtain ⟨b, off, rfl, hb, k0, k1, k2⟩ := sg_get (HRs2.out.below HB.out) hlt
        have i1 : (0 : Int) ≤ (m : Int) := by omega
        have i2 : (m : Int) < (o6.length : Int) := by omega
        have HIa := Lib.hid (HALL.out _ (List.getElem_mem hlt))
        have HIb := Lib.hid (HSUB.out _ (List.getElem_mem hlt))
        generalize o6[m] = sg at *
        have HSw : Hid (∀ w' : World, Below wo.heap.size wo w' → w'.cell? ⟨b, off + m * 3, none⟩ = some (iV sg.o) ∧ w'.cell? ⟨b, off + m * 3 + 1, none⟩ = some (iV sg.lo) ∧ w'.cell? ⟨b, off + m * 3 + 2, none⟩ = some (iV sg.hi)) := fun w' h =>
          ⟨(h.cell (p := ⟨b, off + m * 3, none⟩) hb).trans k0, (h.cell (p := ⟨b, off + m * 3 + 1, none⟩) hb).trans k1, (h.cell (p := ⟨b, off + m * 3 + 2, none⟩) hb).trans k2⟩
        have C1 := isin_any o9 sg A9 c9 wo (HRa2.out.below HB.out) hl9
        rw [decide_eq_true HIa.out] at C1
        have C1 := Lib.hid C1
        go_wp2_with fail
        refine C1.out.mono ?_
        rintro e w13 ⟨rfl, hb13⟩
        obtain ⟨q0, q1, q2⟩ := HSw.out _ hb13
        have HB13 := Lib.hid (bt HB.out hb13)
        clear hb13 C1 k0 k1 k2 HSw
        have C2 := isin_any o12 sg A12 c12 w13 (HRc.out.below HB13.out) hl12
        rw [decide_eq_true HIb.out] at C2
        have C2 := Lib.hid C2
        go_wp2_with fail
        refine C2.out.mono ?_
        rintro e w14 ⟨rfl, hb14⟩
        have HB14 := Lib.hid (bt HB13.out hb14)
        clear hb14
        go_wp2
        go_roundw
        case rel => exact ⟨m + 1, by omega, by go_num, HB14.out⟩
        case measure => simp [intOf]; omega
      · obtain rfl : m = o6.length := by omega
        go_wp2
        go_ret
        exact ⟨rfl, bt HB12.out HB.out⟩
set_option maxHeartbeats 2000000 in
set_option maxRecDepth 100000 in
theorem doubt_any (s x : Int) (l : List UInt8) (AE AM AW : Option Addr) (cE cM cW : Nat) (evs more : List EvC) (ws : List NsC) (w : World) (hs : I64 s) (hl : Len l) (hE : Events0 w AE evs) (hM : Events0 w AM more) (hW : Worlds0 w AW ws) (hx0 : 0 ≤ x) (hx1 : x ≤ 255) (hcW : ws.length ≤ cW) (hcm : cW ≤ maxLen) :
    Calls Try.prog 7 #[iV s, sV l, .slice AE evs.length cE, .slice AM more.length cM, .slice AW ws.length cW, .int .u8 x] w fun e w' => e = .returned (.bool true) ∧ Below w.heap.size w w' := by
  have he1 : evs.length ≤ 9223372036854775807 := by have := hE.2.2; unfold maxLen at this; exact this
  have he2 : more.length ≤ 9223372036854775807 := by have := hM.2.2; unfold maxLen at this; exact this
  by_cases h40 : l.length ≤ 40
  case' neg =>
    have h40' : (40 : Int) < (l.length : Int) := by omega
  case' pos =>
    have h40' : ¬ (40 : Int) < (l.length : Int) := by omega
    by_cases h8 : evs.length ≤ 8
    case' neg =>
      have h8a : (8 : Int) < (evs.length : Int) := by omega
    case' pos =>
      have h8a : ¬ (8 : Int) < (evs.length : Int) := by omega
      by_cases h8' : more.length ≤ 8
      case' neg =>
        have h8b : (8 : Int) < (more.length : Int) := by omega
      case' pos =>
        have h8b : ¬ (8 : Int) < (more.length : Int) := by omega
        cases hF : fewB evs ws
        case' false =>
          have CF : Hid (∀ w', Below w.heap.size w w' → Calls Try.prog 9 #[.slice AE evs.length cE, .slice AW ws.length cW] w' fun e w2 => e = .returned (.bool false) ∧ w' = w2) := fun w' hb => by
            have := few_any evs ws AE AW cE cW w' (hE.below hb) (hW.below hb)
            rwa [hF] at this
          clear hF
        case' true =>
          have CF : Hid (∀ w', Below w.heap.size w w' → Calls Try.prog 9 #[.slice AE evs.length cE, .slice AW ws.length cW] w' fun e w2 => e = .returned (.bool true) ∧ w' = w2) := fun w' hb => by
            have := few_any evs ws AE AW cE cW w' (hE.below hb) (hW.below hb)
            rwa [hF] at this
          cases hF2 : fewB more []
          case' true => exact doubt_main s x l AE AM AW cE cM cW evs more ws w hs h40 hE hM hW h8 h8' hF hF2 hx0 hx1 hcW hcm
          case' false =>
            have CF2 : Hid (∀ w', Below w.heap.size w w' → Calls Try.prog 9 #[.slice AM more.length cM, .slice none 0 0] w' fun e w2 => e = .returned (.bool false) ∧ w' = w2) := fun w' hb => by
              have := few_any more [] AM none cM 0 w' (hM.below hb) ⟨Rd.nil _ _, fun x hx => (by cases hx), by simp⟩
              rwa [hF2] at this
            clear hF hF2
  all_goals
    clear hE hM hW hs hcm h40
    go_enter Try.func7, Try.ntmps7
    go_wp2_with fail
    refine (head_any _).mono ?_
    rintro e w1 ⟨rfl, hb1⟩
    have HB1 := Lib.hid hb1; clear hb1
    go_wp2_with fail
    try (refine (CF.out _ HB1.out).mono ?_; rintro e w2 ⟨rfl, rfl⟩; go_wp2_with fail)
    try (refine (CF2.out _ HB1.out).mono ?_; rintro e w2 ⟨rfl, rfl⟩; go_wp2)
    go_ret
    exact ⟨rfl, HB1.out⟩
end Go.Proofs.Ytpmogdddngbneaa
