/-
  The reference: sights in order with a further one.
-/
import Derived.Test.YtpmogdddngbneaaCapRef4
namespace Go.Proofs.Ytpmogdddngbneaa
open Go.RowKit Go.Sort
attribute [local go_sem] sgG

theorem own_none (w : World) (t : TypeId) (k base H : Nat) (hH : w.heap.size = H) (hb : base ≤ H) : (w.alloc (.cells #[] t)).ownsRow base t k (.slice (some ⟨H, 0, none⟩) 0 0) 0 [] := by
  subst hH
  exact ⟨by simp, .inr ⟨w.heap.size, 0, _, rfl, hb, heap_alloc_new w _, Nat.le_refl _, by decide, by simp, by simp⟩⟩
theorem src_k {P : Program} {w : World} {tx e' : TypeId} (size : Nat) (hk : P.underlying tx = some (.slice e')) {b off m c : Nat} {xs : List Value} (h : Rd w (some ⟨b, off, none⟩) xs) (hn : xs.length = m * size) (h1 : ∀ u ∈ xs, u.oneCell' = true) : Src P size tx (.slice (some ⟨b, off, none⟩) m c) m xs w := by
  refine Src.ofSlice w hk _ m c xs hn (fun j u hu => ?_) h1
  rcases h with rfl | ⟨b', off', he, hb, hc⟩
  · simp at hu
  · cases he
    rw [add_at]
    exact hc j u hu
theorem one_ss (l : List Sight) : ∀ u ∈ l.flatMap encS, u.oneCell' = true := by
  intro u hu
  obtain ⟨s, _, h⟩ := List.mem_flatMap.1 hu
  exact one_s s u h
theorem step_app_nil {P : Program} {w : World} {ops : Array Oper} {o : Oper} {a : Act} {K : Act → World → Prop} {Q : Exit → Act → World → Prop} {E : Prop} (hgd : o.guard = none) (s x : Operand) (t tx : TypeId)
    (ho : o.op = .call { callee := .builtin .append, args := #[s, x], argTypes := #[t, tx] })
    (base : Nat) (e : TypeId) (i : TypeInfo) (z : Value) (size bytes : Nat) (ht : P.underlying t = some (.slice e)) (hi : P.info? e = some i) (hz : i.zero = some z)
    (hsize : i.size = size) (hby : i.bytes = bytes) (hzs : z.cells.size = size)
    (v : Value) (hs : a.eval s = v) (hown : w.ownsRow base e size v 0 []) (vx : Value) (hx : a.eval x = vx) (m : Nat) (news : List Value) (hsrc : Src P size tx vx m news w)
    (h63 : m ≤ maxLen) (hbytes : m * bytes ≤ 140737488355328) (hbase : base ≤ w.heap.size)
    (h : ∀ A c w', w'.ownsRow base e size (.slice A m c) m news → w.grownBy w' v.ownBlock → ((Value.slice A m c).ownBlock = v.ownBlock ∨ (Value.slice A m c).ownBlock = some w.heap.size) → K (a.put o.dst (.slice A m c)) w') :
    if Region.wanted o (yielded ops a.tmps) = true then Oper.wp P o a w K Q else E :=
  step_app hgd s x t tx ho base e i z size bytes ht hi hz hsize hby hzs v 0 [] hs hown vx hx m news hsrc (by omega) (by rw [Nat.zero_add]; exact hbytes) hbase (fun A c w' h1 h2 h3 => by
    rw [Nat.zero_add] at h1 h3 ⊢
    exact h A c w' h1 h2 h3)
theorem flat_split {α : Type} (enc : α → List Value) (n : Nat) (hn : ∀ x, (enc x).length = n) (l : List α) (k : Nat) (hk : k ≤ l.length) : (l.flatMap enc).take (k * n) = (l.take k).flatMap enc ∧ (l.flatMap enc).drop (k * n) = (l.drop k).flatMap enc := by
  have e : l.flatMap enc = (l.take k).flatMap enc ++ (l.drop k).flatMap enc := by rw [← List.flatMap_append, List.take_append_drop]
  have h : ((l.take k).flatMap enc).length = k * n := by rw [flat_len enc n hn, List.length_take, Nat.min_eq_left hk]
  rw [e]
  exact ⟨by rw [← h, List.take_left], by rw [← h, List.drop_left]⟩
/-- What the region keeps: all below W, and the box of the sight. -/
def PI (W : World) (s : Sight) (B : Nat) (w' : World) : Prop := Below W.heap.size W w' ∧ w'.cell? ⟨B, 0, none⟩ = some (iV s.o) ∧ w'.cell? ⟨B, 1, none⟩ = some (iV s.lo) ∧ w'.cell? ⟨B, 2, none⟩ = some (iV s.hi)
theorem PI.of {W w' : World} {s : Sight} {B : Nat} (h : PI W s B W) (hB : B < W.heap.size) (hb : Below W.heap.size W w') : PI W s B w' :=
  ⟨hb, (hb.cell (p := ⟨B, 0, none⟩) hB).trans h.2.1, (hb.cell (p := ⟨B, 1, none⟩) hB).trans h.2.2.1, (hb.cell (p := ⟨B, 2, none⟩) hB).trans h.2.2.2⟩
theorem PI.lt {W w' : World} {s : Sight} {B : Nat} (h : PI W s B w') : B < w'.heap.size := cell_lt h.2.1
theorem PI.drew {W w' : World} {s : Sight} {B : Nat} (h : PI W s B w') : PI W s B w'.drew := ⟨below_drewN h.1 1, h.2⟩
theorem PI.alloc {W w' : World} {s : Sight} {B : Nat} (h : PI W s B w') (o : Obj) : PI W s B (w'.alloc o) := by
  have hb := ba w' o
  exact ⟨h.1.trans (hb.mono h.1.size), (hb.cell (p := ⟨B, 0, none⟩) h.lt).trans h.2.1, (hb.cell (p := ⟨B, 1, none⟩) h.lt).trans h.2.2.1, (hb.cell (p := ⟨B, 2, none⟩) h.lt).trans h.2.2.2⟩
theorem PI.app {W w0 w1 : World} {s : Sight} {B n k : Nat} {t : TypeId} {v : Value} {xs : List Value} (h : PI W s B w0) (HO : w0.ownsRow W.heap.size t k v n xs) (HG : w0.grownBy w1 v.ownBlock) (hB : B < W.heap.size) : PI W s B w1 := by
  have hb : Below W.heap.size w0 w1 := app_below ((Below.refl _ _)) h.1.size HO (Nat.le_refl _) HG
  exact ⟨h.1.trans hb, (hb.cell (p := ⟨B, 0, none⟩) hB).trans h.2.1, (hb.cell (p := ⟨B, 1, none⟩) hB).trans h.2.2.1, (hb.cell (p := ⟨B, 2, none⟩) hB).trans h.2.2.2⟩
theorem news_far {w w1 : World} {H : Nat} {row : Option Nat} {cs : List Value} (h : ∀ j u, cs[j]? = some u → w.cell? ((⟨H, 0, none⟩ : Addr).add j) = some u) (hg : w.drew.grownBy w1 row) (hH : H < w.heap.size) (hr : some H ≠ row) : ∀ j u, cs[j]? = some u → w1.cell? ((⟨H, 0, none⟩ : Addr).add j) = some u := fun j u hu => by
  have := h j u hu
  rw [add_at] at this ⊢
  rw [World.cell?_of_block (w := w) (w' := w1) (a := ⟨H, 0 + j, none⟩) (hg.block H hH hr)]
  exact this
theorem news_in {w : World} {H : Nat} {cs : List Value} (h : ∀ j u, cs[j]? = some u → w.cell? ((⟨H, 0, none⟩ : Addr).add j) = some u) (o : Obj) (hH : H < w.heap.size) : ∀ j u, cs[j]? = some u → (w.alloc o).cell? ((⟨H, 0, none⟩ : Addr).add j) = some u := fun j u hu => by
  have := h j u hu
  rw [add_at] at this ⊢
  exact ((ba w o).cell (p := ⟨H, 0 + j, none⟩) hH).trans this
theorem ins_done {w w4 : World} {base : Nat} {A : Option Addr} {c n k : Nat} {e : TypeId} {l : List Sight} {s : Sight} (h : w4.ownsRow base e 3 (.slice A n c) n ((l.take k).flatMap encS ++ encS s ++ (l.drop k).flatMap encS)) (hb : Below w.heap.size w w4) (hn : n = l.length + 1) (hs : Strict (l.take k ++ [s] ++ l.drop k)) :
    ∃ b' off' c' m, Ending.returned (.slice A n c) = .returned (.slice (some ⟨b', off', none⟩) (List.length m) c') ∧ Rd w4 (some ⟨b', off', none⟩) (m.flatMap encS) ∧ b' < w4.heap.size ∧ m.length ≤ c' ∧ c' ≤ maxLen ∧ m.length ≤ l.length + 1 ∧ Strict m ∧ (∀ x, x ∈ m ↔ x ∈ l ∨ x = s) ∧ Below w.heap.size w w4 := by
  have e1 : (l.take k).flatMap encS ++ encS s ++ (l.drop k).flatMap encS = (l.take k ++ [s] ++ l.drop k).flatMap encS := by simp
  have e2 : (l.take k ++ [s] ++ l.drop k).length = n := by simp; omega
  rw [e1] at h
  rcases h.2 with ⟨h1, h2⟩ | ⟨g, cap, cur, hv, hg, hgr, h3, h4, _⟩
  · omega
  · cases hv
    refine ⟨g, 0, c, l.take k ++ [s] ++ l.drop k, by rw [e2], ?_, block_lt hgr, by omega, h4, by omega, hs, fun x => ins_mem x, hb⟩
    refine .inr ⟨g, 0, rfl, block_lt hgr, fun i u hu => ?_⟩
    have := h.cells (g := g) rfl i u hu
    rwa [add_at] at this
set_option maxHeartbeats 4000000 in
set_option maxRecDepth 100000 in
theorem insert_any (l : List Sight) (s : Sight) (b off c : Nat) (w : World) (hA : Rd w (some ⟨b, off, none⟩) (l.flatMap encS)) (hb : b < w.heap.size) (hc : l.length ≤ c) (hm : c ≤ maxLen) (hl : l.length ≤ 1000) (hS : Strict l) :
    Calls Try.prog 25 #[.slice (some ⟨b, off, none⟩) l.length c, gV s] w fun e w' => ∃ b' off' c' m, e = .returned (.slice (some ⟨b', off', none⟩) (List.length m) c') ∧ Rd w' (some ⟨b', off', none⟩) (m.flatMap encS) ∧ b' < w'.heap.size ∧ m.length ≤ c' ∧ c' ≤ maxLen ∧ m.length ≤ l.length + 1 ∧ Strict m ∧ (∀ x, x ∈ m ↔ x ∈ l ∨ x = s) ∧ Below w.heap.size w w' := by
  obtain ⟨i0, hi0, hz0, hz1, hz2⟩ := info_parts sightInf
  have HA := Lib.hid hA; clear hA
  have HS := Lib.hid hS; clear hS
  have HM := Lib.hid hm; clear hm
  have hm' : c ≤ 9223372036854775807 := by have := HM.out; unfold maxLen at this; omega
  go_enter Try.func25, Try.ntmps25
  go_wp2
  go_loopw [5] (fun i wr => ∃ k : Nat, k ≤ l.length ∧ i = iV k ∧ Hid (∀ i (hi : i < l.length), i < k → lessS l[i] s = true) ∧ Hid (Gr (w.alloc (.cells (encS s).toArray 39)) wr)) (fun i _ => l.length - (intOf i).toNat)
  case atStart => exact ⟨0, Nat.zero_le _, rfl, fun i _ h => (by omega), Gr.refl _⟩
  case round =>
    obtain ⟨k, hk, rfl, HP, HG⟩ := hrel
    have HB : Hid (Below w.heap.size w wr) := (ba w _).trans (HG.out.below.mono (by simp))
    have hzw : w.heap.size < wr.heap.size := by have := HG.out.size; simp at this; omega
    have kk : ∀ j u, (encS s)[j]? = some u → wr.cell? ⟨w.heap.size, 0 + j, none⟩ = some u := fun j u h => by
      have := news_at w (encS s) 39 w.heap.size rfl j u h
      rw [add_at] at this
      exact HG.out.cell (by simp) this
    have q0 : wr.cell? ⟨w.heap.size, 0, none⟩ = some (iV s.o) := kk 0 _ rfl
    have q1 : wr.cell? ⟨w.heap.size, 1, none⟩ = some (iV s.lo) := kk 1 _ rfl
    have q2 : wr.cell? ⟨w.heap.size, 2, none⟩ = some (iV s.hi) := kk 2 _ rfl
    clear kk
    have i1 : (0 : Int) ≤ (k : Int) := by omega
    by_cases hlt : k < l.length
    · obtain ⟨b_, off_, he, hbw, k0, k1, k2⟩ := sg_get (HA.out.below HB.out) hlt
      cases he
      have i2 : (k : Int) < (l.length : Int) := by omega
      have HSw : Hid (∀ w' : World, Below wr.heap.size wr w' → w'.cell? ⟨w.heap.size, 0, none⟩ = some (iV s.o) ∧ w'.cell? ⟨w.heap.size, 1, none⟩ = some (iV s.lo) ∧ w'.cell? ⟨w.heap.size, 2, none⟩ = some (iV s.hi) ∧ w'.cell? ⟨b, off + k * 3, none⟩ = some (iV l[k].o) ∧ w'.cell? ⟨b, off + k * 3 + 1, none⟩ = some (iV l[k].lo) ∧ w'.cell? ⟨b, off + k * 3 + 2, none⟩ = some (iV l[k].hi)) :=
        fun w' h => ⟨(h.cell (p := ⟨w.heap.size, 0, none⟩) hzw).trans q0, (h.cell (p := ⟨w.heap.size, 1, none⟩) hzw).trans q1, (h.cell (p := ⟨w.heap.size, 2, none⟩) hzw).trans q2, (h.cell (p := ⟨b, off + k * 3, none⟩) hbw).trans k0, (h.cell (p := ⟨b, off + k * 3 + 1, none⟩) hbw).trans k1, (h.cell (p := ⟨b, off + k * 3 + 2, none⟩) hbw).trans k2⟩
      have HX : Hid (lessS l[k] s = true → ∀ i (hi : i < l.length), i < k + 1 → lessS l[i] s = true) := fun h i hi hik => by
        by_cases hie : i = k
        · subst hie; exact h
        · exact HP.out i hi (by omega)
      have HIN : Hid (∀ (x : Sight), lessS l[k] s = false → l[k] ≠ s → Strict (l.take k ++ [s] ++ l.drop k)) := fun _ h1 h2 => ins_strict HS.out hk (fun i hi h => HP.out i hi h) (fun _ => h1) (fun _ => h2)
      have HMM : Hid (l[k] ∈ l) := List.getElem_mem hlt
      have HTK : Hid (True) := trivial
      generalize l[k] = x at *
      have CL := Lib.hid (less_any x s)
      cases hls : lessS x s
      · rw [hls] at CL
        have HLS := Lib.hid hls; clear hls
        go_wp2
        go_region_held3 (fun w' => w'.cell? ⟨w.heap.size, 0, none⟩ = some (iV s.o) ∧ w'.cell? ⟨w.heap.size, 1, none⟩ = some (iV s.lo) ∧ w'.cell? ⟨w.heap.size, 2, none⟩ = some (iV s.hi) ∧ w'.cell? ⟨b, off + k * 3, none⟩ = some (iV x.o) ∧ w'.cell? ⟨b, off + k * 3 + 1, none⟩ = some (iV x.lo) ∧ w'.cell? ⟨b, off + k * 3 + 2, none⟩ = some (iV x.hi)) (first | exact HSw.out _ (bdr1 HG3.out.below) | go_keep)
          ((go_at_call 17; refine (CL.out _).mono ?_; rintro e w3 ⟨rfl, hg3⟩; have HG3 := Lib.hid hg3; clear hg3))
        obtain ⟨q0', q1', q2', k0', k1', k2'⟩ := HSw.out _ (bdr1 HG3.out.below)
        have HB3 : Hid (Below wr.heap.size wr w3) := bdr1 HG3.out.below
        clear q0 q1 q2 k0 k1 k2 HSw
        by_cases hxs : x = s
        · subst hxs
          have hd := eq_yes x
          go_wp2
          go_quiet (fail)
          go_wp2
          go_ret
          have HBq : Below w.heap.size w (w3.drewN nq) := below_drewN (HB.out.trans (HB3.out.mono HB.out.size)) nq
          exact ⟨b, off, c, l, rfl, HA.out.below HBq, Nat.lt_of_lt_of_le hb HBq.size, hc, HM.out, by omega, HS.out, fun y => ⟨.inl, fun h => h.elim id fun e => e ▸ HMM.out⟩, HBq⟩
        · have hd := eq_no hxs
          have HXS := Lib.hid hxs; clear hxs
          go_wp2
          go_quiet (fail)
          go_wp2
          have HST := Lib.hid (HIN.out x HLS.out HXS.out)
          have HBW : Hid (Below w.heap.size w (w3.drewN nq)) := below_drewN (HB.out.trans (HB3.out.mono HB.out.size)) nq
          have HS0 : Hid (PI (w3.drewN nq) s w.heap.size (w3.drewN nq)) := ⟨Below.refl _ _, q0', q1', q2'⟩
          have hzW : w.heap.size < (w3.drewN nq).heap.size := HS0.out.lt
          have q0'' : (w3.drewN nq).cell? ⟨w.heap.size, 0, none⟩ = some (iV s.o) := q0'
          have q1'' : (w3.drewN nq).cell? ⟨w.heap.size, 1, none⟩ = some (iV s.lo) := q1'
          have q2'' : (w3.drewN nq).cell? ⟨w.heap.size, 2, none⟩ = some (iV s.hi) := q2'
          clear q0' q1' q2' k0' k1' k2' HB3 HG3
          generalize (w3.drewN nq) = W at *
          have hkc : k < c := by omega
          have hck : c ≠ k := by omega
          have HLt : Hid (((l.take k).flatMap encS).length = k * 3) := by show _ = _; rw [flat_len encS 3 encS_len, List.length_take, Nat.min_eq_left hk]
          have HLd : Hid (((l.drop k).flatMap encS).length = (l.length - k) * 3) := by show _ = _; rw [flat_len encS 3 encS_len, List.length_drop]
          have HRt : Hid (∀ w', Below W.heap.size W w' → Rd w' (some ⟨b, off, none⟩) ((l.take k).flatMap encS)) := fun w' h => by
            have := ((HA.out.below HBW.out).below h).take (k * 3)
            rwa [(flat_split encS 3 encS_len l k hk).1] at this
          have HRd : Hid (∀ w', Below W.heap.size W w' → Rd w' (some ⟨b, off + k * 3, none⟩) ((l.drop k).flatMap encS)) := fun w' h => by
            have := ((HA.out.below HBW.out).below h).drop (k * 3)
            rwa [(flat_split encS 3 encS_len l k hk).2] at this
          have HZ : Hid (W.heap.size ≤ W.heap.size) := Nat.le_refl _
          have i3 : (k : Int) ≤ (c : Int) := by omega
          have i4 : (k : Int) ≤ (l.length : Int) := by omega
          have i5 : (l.length : Int) ≤ (c : Int) := by omega
          go_region_held3 (fun w' => Below W.heap.size W w' ∧ w'.cell? ⟨w.heap.size, 0, none⟩ = some (iV s.o) ∧ w'.cell? ⟨w.heap.size, 1, none⟩ = some (iV s.lo) ∧ w'.cell? ⟨w.heap.size, 2, none⟩ = some (iV s.hi)) (first | exact hs4.out | exact hs2.out | exact PI.alloc hs1.out _ | exact hs1.out | exact PI.drew (PI.alloc (PI.alloc HS0.out (.cells #[] 39)) (.cells #[iV s.o, iV s.lo, iV s.hi] 39)) | exact PI.drew (PI.alloc (PI.alloc HS0.out (.cells #[iV s.o, iV s.lo, iV s.hi] 39)) (.cells #[] 39)) | exact PI.drew (PI.alloc HS0.out (.cells #[] 39)) | exact PI.drew (PI.alloc HS0.out (.cells #[iV s.o, iV s.lo, iV s.hi] 39)) | exact PI.drew HS0.out)
            (first
              | (refine step_app (by rfl) (.tmp 40) (.tmp 43) 27 27 (by rfl) W.heap.size 39 i0 _ 3 24 Try.underlying27 hi0 hz0 hz1 hz2 (by rfl) _ (k + 1) ((l.take k).flatMap encS ++ encS s) (by rfl) HO2.out _ (by rfl) (l.length - k) ((l.drop k).flatMap encS) (src_k 3 Try.underlying27 (HRd.out _ hs2.out.1) HLd.out (one_ss _)) (by unfold maxLen; omega) (by omega) (Nat.le_trans HZ.out hs2.out.1.size) ?_; intro A4 c4 w4 hown4 hgrow4 _; have hs4 := Lib.hid (PI.app hs2.out HO2.out hgrow4 hzW); have HO4 := Lib.hid hown4; clear hown4 hgrow4)
              | (refine step_app (by rfl) (.tmp 37) (.tmp 39) 27 27 (by rfl) W.heap.size 39 i0 _ 3 24 Try.underlying27 hi0 hz0 hz1 hz2 (by rfl) _ k ((l.take k).flatMap encS) (by rfl) HO1.out _ (by rfl) 1 (encS s) (Src.ofSlice _ Try.underlying27 ⟨W.heap.size, 0, none⟩ 1 1 (encS s) (by rfl) HC1.out (one_s s)) (by unfold maxLen; omega) (by omega) (Nat.le_trans HZ.out (hs1.out).1.size) ?_; intro A2 c2 w2 hown2 hgrow2 _; have hs2 := Lib.hid (PI.app (hs1.out) HO1.out hgrow2 hzW); have HO2 := Lib.hid hown2; clear hown2 hgrow2)
              | (refine step_app (by rfl) (.tmp 37) (.tmp 39) 27 27 (by rfl) W.heap.size 39 i0 _ 3 24 Try.underlying27 hi0 hz0 hz1 hz2 (by rfl) _ k ((l.take k).flatMap encS) (by rfl) (HO1.out.alloc (.cells #[iV s.o, iV s.lo, iV s.hi] 39)) _ (by rfl) 1 (encS s) (Src.ofSlice _ Try.underlying27 ⟨w1.heap.size, 0, none⟩ 1 1 (encS s) (by rfl) (news_at w1 (encS s) _ _ rfl) (one_s s)) (by unfold maxLen; omega) (by omega) (Nat.le_trans HZ.out (PI.alloc hs1.out (.cells #[iV s.o, iV s.lo, iV s.hi] 39)).1.size) ?_; intro A2 c2 w2 hown2 hgrow2 _; have hs2 := Lib.hid (PI.app (PI.alloc hs1.out (.cells #[iV s.o, iV s.lo, iV s.hi] 39)) (HO1.out.alloc (.cells #[iV s.o, iV s.lo, iV s.hi] 39)) hgrow2 hzW); have HO2 := Lib.hid hown2; clear hown2 hgrow2)
              | (refine step_app_nil (w := (World.alloc W (.cells #[] 39)).drew) (by rfl) (.tmp 33) (.tmp 36) 27 27 (by rfl) W.heap.size 39 i0 _ 3 24 Try.underlying27 hi0 hz0 hz1 hz2 (by rfl) (.slice (some ⟨W.heap.size, 0, none⟩) 0 0) (by rfl) (own_none W _ 3 _ _ rfl (Nat.le_refl _)) _ (by rfl) k ((l.take k).flatMap encS) (src_k 3 Try.underlying27 (HRt.out _ (PI.drew (PI.alloc HS0.out (.cells #[] 39))).1) HLt.out (one_ss _)) (by unfold maxLen; omega) (by omega) (PI.drew (PI.alloc HS0.out (.cells #[] 39))).1.size ?_; intro A1 c1 w1 hown1 hgrow1 _; have hs1 := Lib.hid (PI.app (PI.drew (PI.alloc HS0.out (.cells #[] 39))) (own_none W _ 3 _ _ rfl (Nat.le_refl _)) hgrow1 hzW); have HO1 := Lib.hid hown1; clear hown1 hgrow1)
              | (refine step_app_nil (w := ((World.alloc W (.cells #[] 39)).alloc (.cells #[iV s.o, iV s.lo, iV s.hi] 39)).drew) (by rfl) (.tmp 33) (.tmp 36) 27 27 (by rfl) W.heap.size 39 i0 _ 3 24 Try.underlying27 hi0 hz0 hz1 hz2 (by rfl) (.slice (some ⟨W.heap.size, 0, none⟩) 0 0) (by rfl) ((own_none W _ 3 _ _ rfl (Nat.le_refl _)).alloc (.cells #[iV s.o, iV s.lo, iV s.hi] 39)) _ (by rfl) k ((l.take k).flatMap encS) (src_k 3 Try.underlying27 (HRt.out _ (PI.drew (PI.alloc (PI.alloc HS0.out (.cells #[] 39)) (.cells #[iV s.o, iV s.lo, iV s.hi] 39))).1) HLt.out (one_ss _)) (by unfold maxLen; omega) (by omega) (PI.drew (PI.alloc (PI.alloc HS0.out (.cells #[] 39)) (.cells #[iV s.o, iV s.lo, iV s.hi] 39))).1.size ?_; intro A1 c1 w1 hown1 hgrow1 _; have hs1 := Lib.hid (PI.app (PI.drew (PI.alloc (PI.alloc HS0.out (.cells #[] 39)) (.cells #[iV s.o, iV s.lo, iV s.hi] 39))) ((own_none W _ 3 _ _ rfl (Nat.le_refl _)).alloc (.cells #[iV s.o, iV s.lo, iV s.hi] 39)) hgrow1 hzW); have HO1 := Lib.hid hown1; have HC1 := Lib.hid (news_far (news_at (World.alloc W (.cells #[] 39)) (encS s) 39 (W.heap.size + 1) (by simp)) hgrow1 (by simp <;> omega) (show some (W.heap.size + 1) ≠ some W.heap.size from fun h => by injection h with h; omega)); clear hown1 hgrow1)
              | (refine step_app_nil (w := ((World.alloc W (.cells #[iV s.o, iV s.lo, iV s.hi] 39)).alloc (.cells #[] 39)).drew) (by rfl) (.tmp 33) (.tmp 36) 27 27 (by rfl) W.heap.size 39 i0 _ 3 24 Try.underlying27 hi0 hz0 hz1 hz2 (by rfl) (.slice (some ⟨(W.heap.size + 1), 0, none⟩) 0 0) (by rfl) (own_none (World.alloc W (.cells #[iV s.o, iV s.lo, iV s.hi] 39)) _ 3 W.heap.size (W.heap.size + 1) (by simp) (by omega)) _ (by rfl) k ((l.take k).flatMap encS) (src_k 3 Try.underlying27 (HRt.out _ (PI.drew (PI.alloc (PI.alloc HS0.out (.cells #[iV s.o, iV s.lo, iV s.hi] 39)) (.cells #[] 39))).1) HLt.out (one_ss _)) (by unfold maxLen; omega) (by omega) (PI.drew (PI.alloc (PI.alloc HS0.out (.cells #[iV s.o, iV s.lo, iV s.hi] 39)) (.cells #[] 39))).1.size ?_; intro A1 c1 w1 hown1 hgrow1 _; have hs1 := Lib.hid (PI.app (PI.drew (PI.alloc (PI.alloc HS0.out (.cells #[iV s.o, iV s.lo, iV s.hi] 39)) (.cells #[] 39))) (own_none (World.alloc W (.cells #[iV s.o, iV s.lo, iV s.hi] 39)) _ 3 W.heap.size (W.heap.size + 1) (by simp) (by omega)) hgrow1 hzW); have HO1 := Lib.hid hown1; have HC1 := Lib.hid (news_far (news_in (news_at W (encS s) 39 W.heap.size rfl) (.cells #[] 39) (by simp)) hgrow1 (by simp <;> omega) (show some W.heap.size ≠ some (W.heap.size + 1) from fun h => by injection h with h; omega)); clear hown1 hgrow1)
              | (refine step_app (by rfl) (.tmp 37) (.tmp 39) 27 27 (by rfl) W.heap.size 39 i0 _ 3 24 Try.underlying27 hi0 hz0 hz1 hz2 (by rfl) _ k ((l.take k).flatMap encS) (by rfl) HO1.out _ (by rfl) 1 (encS s) (Src.ofSlice _ Try.underlying27 ⟨W.heap.size + 1, 0, none⟩ 1 1 (encS s) (by rfl) HC1.out (one_s s)) (by unfold maxLen; omega) (by omega) (Nat.le_trans HZ.out (hs1.out).1.size) ?_; intro A2 c2 w2 hown2 hgrow2 _; have hs2 := Lib.hid (PI.app (hs1.out) HO1.out hgrow2 hzW); have HO2 := Lib.hid hown2; clear hown2 hgrow2)
              | fail)
          all_goals
            go_wp2
            go_ret
            exact ins_done HO4.out (HBW.out.trans (hs4.out.1.mono HBW.out.size)) (by omega) HST.out
      · rw [hls] at CL
        have HLS := Lib.hid hls; clear hls
        go_wp2
        go_region_held3 (fun w' => w'.cell? ⟨w.heap.size, 0, none⟩ = some (iV s.o) ∧ w'.cell? ⟨w.heap.size, 1, none⟩ = some (iV s.lo) ∧ w'.cell? ⟨w.heap.size, 2, none⟩ = some (iV s.hi) ∧ w'.cell? ⟨b, off + k * 3, none⟩ = some (iV x.o) ∧ w'.cell? ⟨b, off + k * 3 + 1, none⟩ = some (iV x.lo) ∧ w'.cell? ⟨b, off + k * 3 + 2, none⟩ = some (iV x.hi)) (first | exact HSw.out _ (bdr1 HG3.out.below) | go_keep)
          ((go_at_call 17; refine (CL.out _).mono ?_; rintro e w3 ⟨rfl, hg3⟩; have HG3 := Lib.hid hg3; clear hg3))
        go_wp2
        go_roundw
        case rel => exact ⟨k + 1, by omega, by go_num, HX.out HLS.out, HG.out.trans ((Gr.drew wr).trans HG3.out)⟩
        case measure => simp [intOf]; omega
    · have hke : k = l.length := by omega
      have HKE := Lib.hid hke
      have hkl : ¬ (k : Int) < (l.length : Int) := by omega
      clear hke
      go_wp2
      go_quiet (fail)
      have HB3 : Hid (Below w.heap.size w (wr.drewN nq)) := below_drewN HB.out _
      have q0' : (wr.drewN nq).cell? ⟨w.heap.size, 0, none⟩ = some (iV s.o) := q0
      have q1' : (wr.drewN nq).cell? ⟨w.heap.size, 1, none⟩ = some (iV s.lo) := q1
      have q2' : (wr.drewN nq).cell? ⟨w.heap.size, 2, none⟩ = some (iV s.hi) := q2
      have HST : Hid (Strict (l.take k ++ [s] ++ l.drop k)) := ins_strict HS.out hk (fun i hi h => HP.out i hi h) (fun h => absurd h (by have := HKE.out; omega)) (fun h => absurd h (by have := HKE.out; omega))
      clear q0 q1 q2 HG HB HP hzw
      generalize wr.drewN nq = w3 at *
      go_wp2
      go_quiet (fail)
      go_wp2
      have HBW : Hid (Below w.heap.size w (w3.drewN nq)) := below_drewN HB3.out nq
      have HS0 : Hid (PI (w3.drewN nq) s w.heap.size (w3.drewN nq)) := ⟨Below.refl _ _, q0', q1', q2'⟩
      have hzW : w.heap.size < (w3.drewN nq).heap.size := HS0.out.lt
      have q0'' : (w3.drewN nq).cell? ⟨w.heap.size, 0, none⟩ = some (iV s.o) := q0'
      have q1'' : (w3.drewN nq).cell? ⟨w.heap.size, 1, none⟩ = some (iV s.lo) := q1'
      have q2'' : (w3.drewN nq).cell? ⟨w.heap.size, 2, none⟩ = some (iV s.hi) := q2'
      clear q0' q1' q2' HB3
      generalize (w3.drewN nq) = W at *
      by_cases hck : c = k
      · subst hck
        have HLt : Hid (((l.take c).flatMap encS).length = c * 3) := by show _ = _; rw [flat_len encS 3 encS_len, List.length_take, Nat.min_eq_left hk]
        have HLd : Hid (((l.drop c).flatMap encS).length = 0 * 3) := by show _ = _; rw [List.drop_of_length_le (by have := HKE.out; omega)]; rfl
        have HRt : Hid (∀ w', Below W.heap.size W w' → Rd w' (some ⟨b, off, none⟩) ((l.take c).flatMap encS)) := fun w' h => by
          have := ((HA.out.below HBW.out).below h).take (c * 3)
          rwa [(flat_split encS 3 encS_len l c hk).1] at this
        have HRd : Hid (∀ w', Below W.heap.size W w' → Rd w' (some ⟨b, off, none⟩) ((l.drop c).flatMap encS)) := fun w' h => by
          rw [List.drop_of_length_le (by have := HKE.out; omega)]
          exact Rd.nil _ _
        have HZ : Hid (W.heap.size ≤ W.heap.size) := Nat.le_refl _
        have i3 : (c : Int) ≤ (c : Int) := by omega
        have i4 : (c : Int) ≤ (l.length : Int) := by omega
        have i5 : (l.length : Int) ≤ (c : Int) := by omega
        go_region_held3 (fun w' => Below W.heap.size W w' ∧ w'.cell? ⟨w.heap.size, 0, none⟩ = some (iV s.o) ∧ w'.cell? ⟨w.heap.size, 1, none⟩ = some (iV s.lo) ∧ w'.cell? ⟨w.heap.size, 2, none⟩ = some (iV s.hi)) (first | exact hs4.out | exact hs2.out | exact PI.alloc hs1.out _ | exact hs1.out | exact PI.drew (PI.alloc (PI.alloc HS0.out (.cells #[] 39)) (.cells #[iV s.o, iV s.lo, iV s.hi] 39)) | exact PI.drew (PI.alloc (PI.alloc HS0.out (.cells #[iV s.o, iV s.lo, iV s.hi] 39)) (.cells #[] 39)) | exact PI.drew (PI.alloc HS0.out (.cells #[] 39)) | exact PI.drew (PI.alloc HS0.out (.cells #[iV s.o, iV s.lo, iV s.hi] 39)) | exact PI.drew HS0.out)
          (first
            | (refine step_app (by rfl) (.tmp 40) (.tmp 43) 27 27 (by rfl) W.heap.size 39 i0 _ 3 24 Try.underlying27 hi0 hz0 hz1 hz2 (by rfl) _ (c + 1) ((l.take c).flatMap encS ++ encS s) (by rfl) HO2.out _ (by rfl) 0 ((l.drop c).flatMap encS) (src_k 3 Try.underlying27 (HRd.out _ hs2.out.1) HLd.out (one_ss _)) (by unfold maxLen; omega) (by omega) (Nat.le_trans HZ.out hs2.out.1.size) ?_; intro A4 c4 w4 hown4 hgrow4 _; have hs4 := Lib.hid (PI.app hs2.out HO2.out hgrow4 hzW); have HO4 := Lib.hid hown4; clear hown4 hgrow4)
            | (refine step_app (by rfl) (.tmp 37) (.tmp 39) 27 27 (by rfl) W.heap.size 39 i0 _ 3 24 Try.underlying27 hi0 hz0 hz1 hz2 (by rfl) _ c ((l.take c).flatMap encS) (by rfl) HO1.out _ (by rfl) 1 (encS s) (Src.ofSlice _ Try.underlying27 ⟨W.heap.size, 0, none⟩ 1 1 (encS s) (by rfl) HC1.out (one_s s)) (by unfold maxLen; omega) (by omega) (Nat.le_trans HZ.out (hs1.out).1.size) ?_; intro A2 c2 w2 hown2 hgrow2 _; have hs2 := Lib.hid (PI.app (hs1.out) HO1.out hgrow2 hzW); have HO2 := Lib.hid hown2; clear hown2 hgrow2)
            | (refine step_app (by rfl) (.tmp 37) (.tmp 39) 27 27 (by rfl) W.heap.size 39 i0 _ 3 24 Try.underlying27 hi0 hz0 hz1 hz2 (by rfl) _ c ((l.take c).flatMap encS) (by rfl) (HO1.out.alloc (.cells #[iV s.o, iV s.lo, iV s.hi] 39)) _ (by rfl) 1 (encS s) (Src.ofSlice _ Try.underlying27 ⟨w1.heap.size, 0, none⟩ 1 1 (encS s) (by rfl) (news_at w1 (encS s) _ _ rfl) (one_s s)) (by unfold maxLen; omega) (by omega) (Nat.le_trans HZ.out (PI.alloc hs1.out (.cells #[iV s.o, iV s.lo, iV s.hi] 39)).1.size) ?_; intro A2 c2 w2 hown2 hgrow2 _; have hs2 := Lib.hid (PI.app (PI.alloc hs1.out (.cells #[iV s.o, iV s.lo, iV s.hi] 39)) (HO1.out.alloc (.cells #[iV s.o, iV s.lo, iV s.hi] 39)) hgrow2 hzW); have HO2 := Lib.hid hown2; clear hown2 hgrow2)
            | (refine step_app_nil (w := (World.alloc W (.cells #[] 39)).drew) (by rfl) (.tmp 33) (.tmp 36) 27 27 (by rfl) W.heap.size 39 i0 _ 3 24 Try.underlying27 hi0 hz0 hz1 hz2 (by rfl) (.slice (some ⟨W.heap.size, 0, none⟩) 0 0) (by rfl) (own_none W _ 3 _ _ rfl (Nat.le_refl _)) _ (by rfl) c ((l.take c).flatMap encS) (src_k 3 Try.underlying27 (HRt.out _ (PI.drew (PI.alloc HS0.out (.cells #[] 39))).1) HLt.out (one_ss _)) (by unfold maxLen; omega) (by omega) (PI.drew (PI.alloc HS0.out (.cells #[] 39))).1.size ?_; intro A1 c1 w1 hown1 hgrow1 _; have hs1 := Lib.hid (PI.app (PI.drew (PI.alloc HS0.out (.cells #[] 39))) (own_none W _ 3 _ _ rfl (Nat.le_refl _)) hgrow1 hzW); have HO1 := Lib.hid hown1; clear hown1 hgrow1)
            | (refine step_app_nil (w := ((World.alloc W (.cells #[] 39)).alloc (.cells #[iV s.o, iV s.lo, iV s.hi] 39)).drew) (by rfl) (.tmp 33) (.tmp 36) 27 27 (by rfl) W.heap.size 39 i0 _ 3 24 Try.underlying27 hi0 hz0 hz1 hz2 (by rfl) (.slice (some ⟨W.heap.size, 0, none⟩) 0 0) (by rfl) ((own_none W _ 3 _ _ rfl (Nat.le_refl _)).alloc (.cells #[iV s.o, iV s.lo, iV s.hi] 39)) _ (by rfl) c ((l.take c).flatMap encS) (src_k 3 Try.underlying27 (HRt.out _ (PI.drew (PI.alloc (PI.alloc HS0.out (.cells #[] 39)) (.cells #[iV s.o, iV s.lo, iV s.hi] 39))).1) HLt.out (one_ss _)) (by unfold maxLen; omega) (by omega) (PI.drew (PI.alloc (PI.alloc HS0.out (.cells #[] 39)) (.cells #[iV s.o, iV s.lo, iV s.hi] 39))).1.size ?_; intro A1 c1 w1 hown1 hgrow1 _; have hs1 := Lib.hid (PI.app (PI.drew (PI.alloc (PI.alloc HS0.out (.cells #[] 39)) (.cells #[iV s.o, iV s.lo, iV s.hi] 39))) ((own_none W _ 3 _ _ rfl (Nat.le_refl _)).alloc (.cells #[iV s.o, iV s.lo, iV s.hi] 39)) hgrow1 hzW); have HO1 := Lib.hid hown1; have HC1 := Lib.hid (news_far (news_at (World.alloc W (.cells #[] 39)) (encS s) 39 (W.heap.size + 1) (by simp)) hgrow1 (by simp <;> omega) (show some (W.heap.size + 1) ≠ some W.heap.size from fun h => by injection h with h; omega)); clear hown1 hgrow1)
            | (refine step_app_nil (w := ((World.alloc W (.cells #[iV s.o, iV s.lo, iV s.hi] 39)).alloc (.cells #[] 39)).drew) (by rfl) (.tmp 33) (.tmp 36) 27 27 (by rfl) W.heap.size 39 i0 _ 3 24 Try.underlying27 hi0 hz0 hz1 hz2 (by rfl) (.slice (some ⟨(W.heap.size + 1), 0, none⟩) 0 0) (by rfl) (own_none (World.alloc W (.cells #[iV s.o, iV s.lo, iV s.hi] 39)) _ 3 W.heap.size (W.heap.size + 1) (by simp) (by omega)) _ (by rfl) c ((l.take c).flatMap encS) (src_k 3 Try.underlying27 (HRt.out _ (PI.drew (PI.alloc (PI.alloc HS0.out (.cells #[iV s.o, iV s.lo, iV s.hi] 39)) (.cells #[] 39))).1) HLt.out (one_ss _)) (by unfold maxLen; omega) (by omega) (PI.drew (PI.alloc (PI.alloc HS0.out (.cells #[iV s.o, iV s.lo, iV s.hi] 39)) (.cells #[] 39))).1.size ?_; intro A1 c1 w1 hown1 hgrow1 _; have hs1 := Lib.hid (PI.app (PI.drew (PI.alloc (PI.alloc HS0.out (.cells #[iV s.o, iV s.lo, iV s.hi] 39)) (.cells #[] 39))) (own_none (World.alloc W (.cells #[iV s.o, iV s.lo, iV s.hi] 39)) _ 3 W.heap.size (W.heap.size + 1) (by simp) (by omega)) hgrow1 hzW); have HO1 := Lib.hid hown1; have HC1 := Lib.hid (news_far (news_in (news_at W (encS s) 39 W.heap.size rfl) (.cells #[] 39) (by simp)) hgrow1 (by simp <;> omega) (show some W.heap.size ≠ some (W.heap.size + 1) from fun h => by injection h with h; omega)); clear hown1 hgrow1)
            | (refine step_app (by rfl) (.tmp 37) (.tmp 39) 27 27 (by rfl) W.heap.size 39 i0 _ 3 24 Try.underlying27 hi0 hz0 hz1 hz2 (by rfl) _ c ((l.take c).flatMap encS) (by rfl) HO1.out _ (by rfl) 1 (encS s) (Src.ofSlice _ Try.underlying27 ⟨W.heap.size + 1, 0, none⟩ 1 1 (encS s) (by rfl) HC1.out (one_s s)) (by unfold maxLen; omega) (by omega) (Nat.le_trans HZ.out (hs1.out).1.size) ?_; intro A2 c2 w2 hown2 hgrow2 _; have hs2 := Lib.hid (PI.app (hs1.out) HO1.out hgrow2 hzW); have HO2 := Lib.hid hown2; clear hown2 hgrow2)
            | fail)
        all_goals
          go_wp2
          go_ret
          exact ins_done HO4.out (HBW.out.trans (hs4.out.1.mono HBW.out.size)) (by have := HKE.out; omega) HST.out
      · have hkc : k < c := by omega
        have HLt : Hid (((l.take k).flatMap encS).length = k * 3) := by show _ = _; rw [flat_len encS 3 encS_len, List.length_take, Nat.min_eq_left hk]
        have HLd : Hid (((l.drop k).flatMap encS).length = (l.length - k) * 3) := by show _ = _; rw [flat_len encS 3 encS_len, List.length_drop]
        have HRt : Hid (∀ w', Below W.heap.size W w' → Rd w' (some ⟨b, off, none⟩) ((l.take k).flatMap encS)) := fun w' h => by
          have := ((HA.out.below HBW.out).below h).take (k * 3)
          rwa [(flat_split encS 3 encS_len l k hk).1] at this
        have HRd : Hid (∀ w', Below W.heap.size W w' → Rd w' (some ⟨b, off + k * 3, none⟩) ((l.drop k).flatMap encS)) := fun w' h => by
          have := ((HA.out.below HBW.out).below h).drop (k * 3)
          rwa [(flat_split encS 3 encS_len l k hk).2] at this
        have HZ : Hid (W.heap.size ≤ W.heap.size) := Nat.le_refl _
        have i3 : (k : Int) ≤ (c : Int) := by omega
        have i4 : (k : Int) ≤ (l.length : Int) := by omega
        have i5 : (l.length : Int) ≤ (c : Int) := by omega
        go_region_held3 (fun w' => Below W.heap.size W w' ∧ w'.cell? ⟨w.heap.size, 0, none⟩ = some (iV s.o) ∧ w'.cell? ⟨w.heap.size, 1, none⟩ = some (iV s.lo) ∧ w'.cell? ⟨w.heap.size, 2, none⟩ = some (iV s.hi)) (first | exact hs4.out | exact hs2.out | exact PI.alloc hs1.out _ | exact hs1.out | exact PI.drew (PI.alloc (PI.alloc HS0.out (.cells #[] 39)) (.cells #[iV s.o, iV s.lo, iV s.hi] 39)) | exact PI.drew (PI.alloc (PI.alloc HS0.out (.cells #[iV s.o, iV s.lo, iV s.hi] 39)) (.cells #[] 39)) | exact PI.drew (PI.alloc HS0.out (.cells #[] 39)) | exact PI.drew (PI.alloc HS0.out (.cells #[iV s.o, iV s.lo, iV s.hi] 39)) | exact PI.drew HS0.out)
          (first
            | (refine step_app (by rfl) (.tmp 40) (.tmp 43) 27 27 (by rfl) W.heap.size 39 i0 _ 3 24 Try.underlying27 hi0 hz0 hz1 hz2 (by rfl) _ (k + 1) ((l.take k).flatMap encS ++ encS s) (by rfl) HO2.out _ (by rfl) (l.length - k) ((l.drop k).flatMap encS) (src_k 3 Try.underlying27 (HRd.out _ hs2.out.1) HLd.out (one_ss _)) (by unfold maxLen; omega) (by omega) (Nat.le_trans HZ.out hs2.out.1.size) ?_; intro A4 c4 w4 hown4 hgrow4 _; have hs4 := Lib.hid (PI.app hs2.out HO2.out hgrow4 hzW); have HO4 := Lib.hid hown4; clear hown4 hgrow4)
            | (refine step_app (by rfl) (.tmp 37) (.tmp 39) 27 27 (by rfl) W.heap.size 39 i0 _ 3 24 Try.underlying27 hi0 hz0 hz1 hz2 (by rfl) _ k ((l.take k).flatMap encS) (by rfl) HO1.out _ (by rfl) 1 (encS s) (Src.ofSlice _ Try.underlying27 ⟨W.heap.size, 0, none⟩ 1 1 (encS s) (by rfl) HC1.out (one_s s)) (by unfold maxLen; omega) (by omega) (Nat.le_trans HZ.out (hs1.out).1.size) ?_; intro A2 c2 w2 hown2 hgrow2 _; have hs2 := Lib.hid (PI.app (hs1.out) HO1.out hgrow2 hzW); have HO2 := Lib.hid hown2; clear hown2 hgrow2)
            | (refine step_app (by rfl) (.tmp 37) (.tmp 39) 27 27 (by rfl) W.heap.size 39 i0 _ 3 24 Try.underlying27 hi0 hz0 hz1 hz2 (by rfl) _ k ((l.take k).flatMap encS) (by rfl) (HO1.out.alloc (.cells #[iV s.o, iV s.lo, iV s.hi] 39)) _ (by rfl) 1 (encS s) (Src.ofSlice _ Try.underlying27 ⟨w1.heap.size, 0, none⟩ 1 1 (encS s) (by rfl) (news_at w1 (encS s) _ _ rfl) (one_s s)) (by unfold maxLen; omega) (by omega) (Nat.le_trans HZ.out (PI.alloc hs1.out (.cells #[iV s.o, iV s.lo, iV s.hi] 39)).1.size) ?_; intro A2 c2 w2 hown2 hgrow2 _; have hs2 := Lib.hid (PI.app (PI.alloc hs1.out (.cells #[iV s.o, iV s.lo, iV s.hi] 39)) (HO1.out.alloc (.cells #[iV s.o, iV s.lo, iV s.hi] 39)) hgrow2 hzW); have HO2 := Lib.hid hown2; clear hown2 hgrow2)
            | (refine step_app_nil (w := (World.alloc W (.cells #[] 39)).drew) (by rfl) (.tmp 33) (.tmp 36) 27 27 (by rfl) W.heap.size 39 i0 _ 3 24 Try.underlying27 hi0 hz0 hz1 hz2 (by rfl) (.slice (some ⟨W.heap.size, 0, none⟩) 0 0) (by rfl) (own_none W _ 3 _ _ rfl (Nat.le_refl _)) _ (by rfl) k ((l.take k).flatMap encS) (src_k 3 Try.underlying27 (HRt.out _ (PI.drew (PI.alloc HS0.out (.cells #[] 39))).1) HLt.out (one_ss _)) (by unfold maxLen; omega) (by omega) (PI.drew (PI.alloc HS0.out (.cells #[] 39))).1.size ?_; intro A1 c1 w1 hown1 hgrow1 _; have hs1 := Lib.hid (PI.app (PI.drew (PI.alloc HS0.out (.cells #[] 39))) (own_none W _ 3 _ _ rfl (Nat.le_refl _)) hgrow1 hzW); have HO1 := Lib.hid hown1; clear hown1 hgrow1)
            | (refine step_app_nil (w := ((World.alloc W (.cells #[] 39)).alloc (.cells #[iV s.o, iV s.lo, iV s.hi] 39)).drew) (by rfl) (.tmp 33) (.tmp 36) 27 27 (by rfl) W.heap.size 39 i0 _ 3 24 Try.underlying27 hi0 hz0 hz1 hz2 (by rfl) (.slice (some ⟨W.heap.size, 0, none⟩) 0 0) (by rfl) ((own_none W _ 3 _ _ rfl (Nat.le_refl _)).alloc (.cells #[iV s.o, iV s.lo, iV s.hi] 39)) _ (by rfl) k ((l.take k).flatMap encS) (src_k 3 Try.underlying27 (HRt.out _ (PI.drew (PI.alloc (PI.alloc HS0.out (.cells #[] 39)) (.cells #[iV s.o, iV s.lo, iV s.hi] 39))).1) HLt.out (one_ss _)) (by unfold maxLen; omega) (by omega) (PI.drew (PI.alloc (PI.alloc HS0.out (.cells #[] 39)) (.cells #[iV s.o, iV s.lo, iV s.hi] 39))).1.size ?_; intro A1 c1 w1 hown1 hgrow1 _; have hs1 := Lib.hid (PI.app (PI.drew (PI.alloc (PI.alloc HS0.out (.cells #[] 39)) (.cells #[iV s.o, iV s.lo, iV s.hi] 39))) ((own_none W _ 3 _ _ rfl (Nat.le_refl _)).alloc (.cells #[iV s.o, iV s.lo, iV s.hi] 39)) hgrow1 hzW); have HO1 := Lib.hid hown1; have HC1 := Lib.hid (news_far (news_at (World.alloc W (.cells #[] 39)) (encS s) 39 (W.heap.size + 1) (by simp)) hgrow1 (by simp <;> omega) (show some (W.heap.size + 1) ≠ some W.heap.size from fun h => by injection h with h; omega)); clear hown1 hgrow1)
            | (refine step_app_nil (w := ((World.alloc W (.cells #[iV s.o, iV s.lo, iV s.hi] 39)).alloc (.cells #[] 39)).drew) (by rfl) (.tmp 33) (.tmp 36) 27 27 (by rfl) W.heap.size 39 i0 _ 3 24 Try.underlying27 hi0 hz0 hz1 hz2 (by rfl) (.slice (some ⟨(W.heap.size + 1), 0, none⟩) 0 0) (by rfl) (own_none (World.alloc W (.cells #[iV s.o, iV s.lo, iV s.hi] 39)) _ 3 W.heap.size (W.heap.size + 1) (by simp) (by omega)) _ (by rfl) k ((l.take k).flatMap encS) (src_k 3 Try.underlying27 (HRt.out _ (PI.drew (PI.alloc (PI.alloc HS0.out (.cells #[iV s.o, iV s.lo, iV s.hi] 39)) (.cells #[] 39))).1) HLt.out (one_ss _)) (by unfold maxLen; omega) (by omega) (PI.drew (PI.alloc (PI.alloc HS0.out (.cells #[iV s.o, iV s.lo, iV s.hi] 39)) (.cells #[] 39))).1.size ?_; intro A1 c1 w1 hown1 hgrow1 _; have hs1 := Lib.hid (PI.app (PI.drew (PI.alloc (PI.alloc HS0.out (.cells #[iV s.o, iV s.lo, iV s.hi] 39)) (.cells #[] 39))) (own_none (World.alloc W (.cells #[iV s.o, iV s.lo, iV s.hi] 39)) _ 3 W.heap.size (W.heap.size + 1) (by simp) (by omega)) hgrow1 hzW); have HO1 := Lib.hid hown1; have HC1 := Lib.hid (news_far (news_in (news_at W (encS s) 39 W.heap.size rfl) (.cells #[] 39) (by simp)) hgrow1 (by simp <;> omega) (show some W.heap.size ≠ some (W.heap.size + 1) from fun h => by injection h with h; omega)); clear hown1 hgrow1)
            | (refine step_app (by rfl) (.tmp 37) (.tmp 39) 27 27 (by rfl) W.heap.size 39 i0 _ 3 24 Try.underlying27 hi0 hz0 hz1 hz2 (by rfl) _ k ((l.take k).flatMap encS) (by rfl) HO1.out _ (by rfl) 1 (encS s) (Src.ofSlice _ Try.underlying27 ⟨W.heap.size + 1, 0, none⟩ 1 1 (encS s) (by rfl) HC1.out (one_s s)) (by unfold maxLen; omega) (by omega) (Nat.le_trans HZ.out (hs1.out).1.size) ?_; intro A2 c2 w2 hown2 hgrow2 _; have hs2 := Lib.hid (PI.app (hs1.out) HO1.out hgrow2 hzW); have HO2 := Lib.hid hown2; clear hown2 hgrow2)
            | fail)
        all_goals
          go_wp2
          go_ret
          exact ins_done HO4.out (HBW.out.trans (hs4.out.1.mono HBW.out.size)) (by omega) HST.out
end Go.Proofs.Ytpmogdddngbneaa
