/- The walk over the reference's Distances. The walks over the -/
import Derived.Test.YtpeaiphdkgifaaaGreatDoorVat
namespace Go.Proofs.YtpeaiphdkgifaaaGreatDoor
open Go.RowKit
set_option maxHeartbeats 20000000
set_option maxRecDepth 100000
def fG (es : List (Nat × Nat × Int)) (N a : Nat) (B : Int) (ys : List Int) : Prop := ys.length = N /\ ∀ b v, ys[b]? = some v -> v = -1 ∨ 0 <= v /\ v <= B /\ Wlk es a b v
theorem fG.mono {es : List (Nat × Nat × Int)} {N a : Nat} {B C : Int} {ys : List Int} (h : fG es N a B ys) (hB : B <= C) : fG es N a C ys :=
 ⟨h.1, fun b v hv => (h.2 b v hv).imp id fun ⟨x, y, z⟩ => ⟨x, by omega, z⟩⟩
theorem fG.set {es : List (Nat × Nat × Int)} {N a b : Nat} {B v : Int} {ys : List Int} (h : fG es N a B ys) (h0 : 0 <= v) (h1 : v <= B) (hw : Wlk es a b v) : fG es N a B (ys.set b v) := by
 refine ⟨by rw [List.length_set]; exact h.1, fun c u hu => ?_⟩
 by_cases hc : b = c
 ·subst hc
  rw [List.getElem?_set_self'] at hu
  cases hy : ys[b]? with
  | none => rw [hy] at hu; cases hu
  | some y =>
   rw [hy] at hu
   cases hu
   exact .inr ⟨h0, h1, hw⟩
 ·rw [List.getElem?_set_ne hc] at hu
  exact h.2 c u hu
theorem fG.init {es : List (Nat × Nat × Int)} (N a : Nat) : fG es N a 0 ((List.replicate N (-1)).set a 0) := by
 have h : fG es N a 0 (List.replicate N (-1)) := ⟨by simp, fun b v hv => by
  have := aF hv
  exact .inl (List.eq_of_mem_replicate this)⟩
 exact h.set (Int.le_refl _) (Int.le_refl _) (Wlk.nil a)
theorem Wlk.snoc {es : List (Nat × Nat × Int)} {a b c : Nat} {L K : Int} (h : Wlk es a b L) (k : (b, c, K) ∈ es) : Wlk es a c (L + K) := by
 have := Wlk.cons k (Wlk.nil (es := es) c)
 rw [Int.add_zero] at this
 exact h.trans this
def qN (es : List (Nat × Nat × Int)) (q : Nat) (ys : List Int) : Prop := ∀ (j : Nat) (e : Nat × Nat × Int), j < q -> es[j]? = some e -> 0 <= ys.getD e.1 (-1) -> 0 <= ys.getD e.2.1 (-1)
def qt (ys : List Int) : Nat := ys.countP (fun v => decide (0 <= v))
def gJ (es : List (Nat × Nat × Int)) (q r k : Nat) (ys : List Int) : Prop := 0 <= ys.getD k (-1) /\ ((qN es q ys /\ r + 1 <= qt ys) ∨ r + 2 <= qt ys ∨ qN es es.length ys)
def qK (es : List (Nat × Nat × Int)) (k : Nat) (ys : List Int) : Prop := ∀ b L, Wlk es k b L -> 0 <= ys.getD b (-1)
theorem ju {ys : List Int} {f : Nat} {v : Int} (h : ys[f]? = some v) : ys.getD f (-1) = v := by rw [List.getD, h]; rfl
theorem gJ.next {es : List (Nat × Nat × Int)} {r k : Nat} {ys : List Int} (h : gJ es es.length r k ys) : gJ es 0 (r + 1) k ys := by
 refine ⟨h.1, ?_⟩
 rcases h.2 with ⟨a, -⟩ | a | a
 ·exact .inr (.inr a)
 ·exact .inl ⟨fun j e hj => by omega, a⟩
 ·exact .inr (.inr a)
theorem gJ.skip {es : List (Nat × Nat × Int)} {q r k f t : Nat} {l : Int} {ys : List Int} (h : gJ es q r k ys) (he : es[q]? = some (f, t, l)) (hv : ¬ 0 <= ys.getD f (-1) ∨ 0 <= ys.getD t (-1)) : gJ es (q + 1) r k ys := by
 refine ⟨h.1, h.2.imp (fun a => ⟨fun j e hj hje => ?_, a.2⟩) id⟩
 rcases Nat.lt_or_ge j q with g | g
 ·exact a.1 j e g hje
 ·obtain rfl : j = q := by omega
  rw [he] at hje
  cases hje
  intro h0
  exact hv.resolve_left (fun g => g h0)
theorem kA {ys : List Int} {t b : Nat} {v : Int} (ht : t < ys.length) : (ys.set t v).getD b (-1) = if b = t then v else ys.getD b (-1) := by
 by_cases hb : b = t
 ·subst hb
  rw [if_pos rfl, List.getD, List.getElem?_set_self ht]
  rfl
 ·rw [if_neg hb, List.getD, List.getElem?_set_ne (fun e => hb e.symm), <- List.getD]
theorem oW : ∀ {ys : List Int} {t : Nat} {v x : Int}, 0 <= v -> ys[t]? = some x -> qt (ys.set t v) = qt ys + if 0 <= x then 0 else 1
 | y :: ys, 0, v, x, hv, hx => by
  cases hx
  simp only [qt, List.set_cons_zero, List.countP_cons, decide_eq_true_eq, if_pos hv]
  split <;> omega
 | y :: ys, t + 1, v, x, hv, hx => by
  have := oW (ys := ys) (t := t) hv hx
  unfold qt at this
  simp only [qt, List.set_cons_succ, List.countP_cons, this]
  omega
theorem gJ.put {es : List (Nat × Nat × Int)} {q r k f t : Nat} {l v x : Int} {ys : List Int} (h : gJ es q r k ys) (he : es[q]? = some (f, t, l)) (hf : 0 <= ys.getD f (-1)) (hv : 0 <= v) (hx : ys[t]? = some x) : gJ es (q + 1) r k (ys.set t v) := by
 have ht := (aE.1 hx).1
 have hmono : ∀ b, 0 <= ys.getD b (-1) -> 0 <= (ys.set t v).getD b (-1) := fun b hb => by
  rw [kA ht]
  split
  ·exact hv
  ·exact hb
 have hc := oW hv hx
 have hcl : 0 <= x -> ∀ p, qN es p ys -> qN es p (ys.set t v) := fun h0 p hp j e hj hje h1 => by
  refine hmono _ (hp j e hj hje ?_)
  rw [kA ht] at h1
  split at h1
  ·rename_i g
   rw [g, ju hx]
   exact h0
  ·exact h1
 by_cases h0 : 0 <= x
 ·rw [if_pos h0] at hc
  have h2 : gJ es q r k (ys.set t v) := ⟨hmono _ h.1, by
   rcases h.2 with a | a | a
   ·exact .inl ⟨hcl h0 _ a.1, by omega⟩
   ·exact .inr (.inl (by omega))
   ·exact .inr (.inr (hcl h0 _ a))⟩
  exact h2.skip he (.inr (by rw [kA ht, if_pos rfl]; exact hv))
 ·rw [if_neg h0] at hc
  refine ⟨hmono _ h.1, ?_⟩
  rcases h.2 with a | a | a
  ·exact .inr (.inl (by omega))
  ·exact .inr (.inl (by omega))
  ·have := a q _ (aE.1 he).1 he hf
   rw [ju hx] at this
   exact absurd this h0
theorem gJ.init {es : List (Nat × Nat × Int)} {N k : Nat} (hk : k < N) : gJ es 0 0 k ((List.replicate N (-1)).set k 0) := by
 have hx : (List.replicate N (-1 : Int))[k]? = some (-1) := by simp [hk]
 refine ⟨by rw [kA (by simpa using hk), if_pos rfl]; exact Int.le_refl _, .inl ⟨fun j e hj => by omega, ?_⟩⟩
 rw [oW (Int.le_refl _) hx]
 simp
theorem gJ.fin {es : List (Nat × Nat × Int)} {N k : Nat} {ys : List Int} (h : gJ es 0 N k ys) (hl : ys.length = N) : qK es k ys := by
 have hc : qt ys <= ys.length := List.countP_le_length
 have hcl : qN es es.length ys := by
  rcases h.2 with a | a | a
  ·omega
  ·omega
  ·exact a
 have h0 := h.1
 clear h hl hc
 intro b L hw
 induction hw with
 | nil a => exact h0
 | cons he _ ih =>
  refine ih ?_
  obtain ⟨j, hj⟩ := List.getElem?_of_mem he
  exact hcl j _ (aE.1 hj).1 hj h0
theorem gJ.fin' {es : List (Nat × Nat × Int)} {N k r : Nat} {ys : List Int} (h : gJ es 0 r k ys) (hr : r = N) (hl : ys.length = N) : qK es k ys := by
 subst hr
 exact h.fin hl
theorem uv (n : Net) : (am n).length = n.lins.length := by unfold am; simp
def ow (w : World) (B : Nat) (v : Value) (es : List (Nat × Nat × Int)) (N k : Nat) : Prop :=
 ∃ rows : List NsC, rows.length = k /\ w.ownsRow B 46 1 v k (rows.map slI) /\ ∀ j r, rows[j]? = some r -> (∃ g, r.A = some (aV g 0) /\ B <= g /\ g < w.heap.size /\ v.ownBlock ≠ some g) /\ Rd w r.A (r.ns.map iV) /\ ∃ C, fG es N j C r.ns /\ qK es j r.ns
theorem ow.form {w : World} {B N k : Nat} {v : Value} {es : List (Nat × Nat × Int)} (h : ow w B v es N k) : ∃ A c, v = .slice A k c := by
 obtain ⟨rows, h1, h2, h3⟩ := h
 exact b9 h2
structure Mk (w0 : World) (N : Nat) (ys : List Int) (w : World) : Prop where
 own : w.ownsRow w0.heap.size 3 1 (.slice (some (aV w0.heap.size 0)) N N) N (ys.map iV)
 bel : Below w0.heap.size w0 w
 lt : w0.heap.size < w.heap.size
theorem Mk.set {w0 w : World} {N : Nat} {ys : List Int} (h : Mk w0 N ys w) (j : Nat) (v : Int) : Mk w0 N (ys.set j v) (w.setCell (aV w0.heap.size j) (iV v)) := by
 refine ⟨?_, h.bel.setCell (aH _) _, by simp; exact h.lt⟩
 have := fi h.own j (iV v)
 rwa [<- List.map_set] at this
theorem Mk.alloc {w0 w : World} {N : Nat} {ys : List Int} (h : Mk w0 N ys w) (o : Obj) : Mk w0 N ys (w.alloc o) :=
 ⟨h.own.alloc o, h.bel.alloc h.bel.size _, by simp; have := h.lt; omega⟩
theorem Mk.drewN {w0 w : World} {N : Nat} {ys : List Int} (h : Mk w0 N ys w) (q : Nat) : Mk w0 N ys (w.drewN q) :=
 ⟨aq h.own (ai (aJ _ _) q), ai h.bel q, h.lt⟩
theorem Mk.drew {w0 w : World} {N : Nat} {ys : List Int} (h : Mk w0 N ys w) : Mk w0 N ys w.drew :=
 ⟨aq h.own (al (aJ _ _)), al h.bel, h.lt⟩
theorem Mk.cell {w0 w : World} {N : Nat} {ys : List Int} (h : Mk w0 N ys w) {j : Nat} {v : Int} (hj : ys[j]? = some v) : w.cell? (aV w0.heap.size j) = some (iV v) /\ w.frozen? (aV w0.heap.size j) = false := by
 have hl := h.own.1
 have hlt : j < ys.length := (aE.1 hj).1
 obtain ⟨g, hg, -, -, hf, hc⟩ := gC h.own (by rw [List.length_map] at hl; omega)
 cases hg
 exact ⟨hc j _ (by rw [aS, hj]; rfl), hf j⟩
theorem ow.push {w0 w w' : World} {B N k : Nat} {A A' : Option Addr} {c c' : Nat} {es : List (Nat × Nat × Int)} {ys : List Int} {C : Int} {rows : List NsC} (h1 : rows.length = k) (h2 : w0.ownsRow B 46 1 (.slice A k c) k (rows.map slI)) (h3 : ∀ j r, rows[j]? = some r -> (∃ g, r.A = some (aV g 0) /\ B <= g /\ g < w0.heap.size /\ (Value.slice A k c).ownBlock ≠ some g) /\ Rd w0 r.A (r.ns.map iV) /\ ∃ C, fG es N j C r.ns /\ qK es j r.ns) (m : Mk w0 N ys w) (hr : fG es N k C ys) (hF : qK es k ys) (hB : B <= w0.heap.size)
  (ho : w'.ownsRow B 46 1 (.slice A' (k + 1) c') (k + 1) (rows.map slI ++ [.slice (some (aV w0.heap.size 0)) N N]))
  (hg : w.grownBy w' (Value.slice A k c).ownBlock) (hb : (Value.slice A' (k + 1) c').ownBlock = (Value.slice A k c).ownBlock ∨ ∃ q, (Value.slice A' (k + 1) c').ownBlock = some q /\ w.heap.size <= q) : ow w' B (.slice A' (k + 1) c') es N (k + 1) := by
 have hlen : ys.length = N := hr.1
 have hne : ∀ g, g < w.heap.size -> (Value.slice A k c).ownBlock ≠ some g -> (Value.slice A' (k + 1) c').ownBlock ≠ some g := fun g hg hn e => by
  rcases hb with hb | ⟨q, hb, hq⟩
  ·exact hn (hb.symm.trans e)
  ·rw [hb] at e
   cases e
   omega
 have hR : (Value.slice A k c).ownBlock ≠ some w0.heap.size := fun e => by
  have := (h2.lt _ e).2
  omega
 refine ⟨rows ++ [⟨ys, some (aV w0.heap.size 0), N⟩], by simp [h1], ?_, fun j r hj => ?_⟩
 ·have : (rows ++ [(⟨ys, some (aV w0.heap.size 0), N⟩ : NsC)]).map slI = rows.map slI ++ [.slice (some (aV w0.heap.size 0)) N N] := by simp [hlen]
  rw [this]
  exact ho
 ·rcases Nat.lt_or_ge j rows.length with hlt | hge
  ·rw [List.getElem?_append_left hlt] at hj
   obtain ⟨⟨g, a, o, b, e⟩, d, f⟩ := h3 j r hj
   have b' : g < w.heap.size := Nat.lt_trans b m.lt
   refine ⟨⟨g, a, o, Nat.lt_of_lt_of_le b' hg.size, hne g b' e⟩, (d.below m.bel).same hg.size (fun x hx hxl => ?_), f⟩
   rw [a] at hx
   cases hx
   exact hg.block _ hxl (fun q => e q.symm)
  ·have hj2 : j = rows.length := by
    have := (aE.1 hj).1
    simp at this
    omega
   subst hj2
   rw [List.getElem?_append_right (aH _)] at hj
   simp at hj
   subst hj
   refine ⟨⟨w0.heap.size, rfl, hB, Nat.lt_of_lt_of_le m.lt hg.size, hne _ m.lt hR⟩, (cE m.own).same hg.size (fun x hx hxl => ?_), C, by rw [h1]; exact ⟨hr, hF⟩⟩
   cases hx
   exact hg.block _ hxl (fun q => hR q.symm)
def DistR (w : World) (n : Net) (e : Ending) (w' : World) : Prop :=
 ∃ (A : Option Addr) (c : Nat) (rows : List NsC), e = .returned (.slice A n.offs.length c) /\ rows.length = n.offs.length /\ Rd w' A (rows.map slI) /\ (∀ a, A = some a -> w.heap.size <= a.block /\ a.block < w'.heap.size) /\ (∀ j r, rows[j]? = some r -> (∃ g, r.A = some (aV g 0) /\ w.heap.size <= g /\ g < w'.heap.size) /\ Rd w' r.A (r.ns.map iV) /\ ∃ C, fG (am n) n.offs.length j C r.ns /\ qK (am n) j r.ns) /\ Below w.heap.size w w'
theorem wG (n : Net) (w : World) (hn : bj w n) (hf : gx n) (hc : jB n) :
  Calls Tryz.prog 183 #[bB n] w (DistR w n) := by
 obtain ⟨i0, hi0, hz0, hz1, hz2⟩ := info_parts qf
 obtain ⟨i1, hi1, hy0, hy1, hy2⟩ := info_parts nG
 have hb0 := ba w (ae n)
 have hx0 := aC w (ae n)
 have HNP : Hid (br (w.alloc (ae n)) w.heap.size n) := ⟨fun i v hv => (aA _ hx0).trans hv, hn.below hb0⟩
 have HNW := aB hn
 have HF := aB hf
 have HC := aB hc
 have HB0 := aB hb0
 have HWL : Hid (w.heap.size + 1 <= (w.alloc (ae n)).heap.size) := aa hx0
 have hN12 := hc.off.1
 have hL40 := hc.lin.1
 have HGL := aB hc.good.lin
 clear hn hf hc hb0 hx0
 go_enter Tryz.func183, Tryz.ntmps183
 go_upto_region 1 with fail
 change Code.wp _ _ _ _ (w.alloc (ae n))
 generalize (w.alloc (ae n)) = W at *
 generalize hX : w.heap.size = X at *
 have HX := aB hX; clear hX
 have HNB : Hid (∀ wr, Below (X + 1) W wr -> Below w.heap.size w wr /\ br wr X n) := fun wr hb => cW HNW.out HX.out HB0.out HNP.out.box hb
 obtain ⟨n0, n1, n2, n3, n4, n5⟩ := jA HNP.out
 go_wp2_with fail
 refine (qr n _ HNP.out.net HF.out).mono ?_
 rintro e w1 ⟨⟨b, rfl, hb⟩, hbl⟩
 obtain rfl : b = true := hb.2 HC.out
 have HB1 : Hid (Below (X + 1) W w1) := hbl.mono HWL.out
 clear hb hbl n0 n1 n2 n3 n4 n5
 go_wp2_with fail
 go_loopw [4, 3] (fun i v wr => ∃ k : Nat, k <= n.offs.length /\ i = iV k /\ Hid (ow wr (X + 1) v (am n) n.offs.length k) /\ Hid (Below (X + 1) W wr)) (fun i _ _ => 60 - (intOf i).toNat)
 case atStart => exact ⟨0, by omega, rfl, ⟨[], rfl, World.ownsRow_nil _ _ _ _, fun j r h => by simp at h⟩, HB1.out⟩
 case round =>
 clear HB1
 obtain ⟨k, hk, rfl, HD, HB⟩ := hrel
 obtain ⟨A2, c2, rfl⟩ := HD.out.form
 obtain ⟨w0, hw0⟩ : ∃ w0, w0 = wr := ⟨_, rfl⟩
 subst hw0
 have k0 : (0 : Int) <= (k : Int) := by omega
 have n3 : w0.cell? (aV X 3) = some (.slice n.offA n.offs.length n.offC) := (HNB.out _ HB.out).2.box 3 _ rfl
 by_cases hlt : k < n.offs.length
 case neg =>
  have k1 : ¬ (k : Int) < (n.offs.length : Int) := by omega
  have hkk : k = n.offs.length := by omega
  have HKK := aB hkk; clear hkk
  go_wp2_with fail
  go_ret
  obtain ⟨rows, h1, h2, h3⟩ := HD.out
  exact ⟨A2, c2, rows, by rw [<- HKK.out]; rfl, by rw [h1, HKK.out], cE h2, (fun a ha => by have := fT h2 a ha; have h5 := HX.out; exact ⟨by omega, this.2⟩), (fun j r hr => by obtain ⟨⟨g, a, o, b, -⟩, d⟩ := h3 j r hr; have h5 := HX.out; exact ⟨⟨g, a, by omega, b⟩, d⟩), (HNB.out _ HB.out).1⟩
 have k1 : (k : Int) < (n.offs.length : Int) := by omega
 go_wp2_with (refine wpList_make_full _ (by rfl) (.tmp 22) (.tmp 22) 46 (by rfl) w0.heap.size 3 i0 _ 1 Tryz.underlying46 hi0 hz0 hz1 .i64 .i64 (n.offs.length : Int) (n.offs.length : Int) n.offs.length (by rfl) (by rfl) rfl rfl (by rw [hz2]; omega) (by unfold maxLen; omega) (aH _) ?_; intro w1 ho hg; have HO1 := aB ho; have HB1 := aB (iF hg); clear ho hg)
 clear n3
 have hlt1 : w0.heap.size < w1.heap.size := by
  rcases HO1.out.2 with ⟨h, _⟩ | ⟨g, cap, cur, h, _, hg, _⟩
  ·cases h
  ·cases h
   exact aa hg
 have HL1 := aB hlt1; clear hlt1
 go_loopw [6] (fun i wr => ∃ (q : Nat) (xs : List Value), q <= n.offs.length /\ i = iV q /\ Hid (wr.ownsRow w0.heap.size 3 1 (.slice (some (aV w0.heap.size 0)) n.offs.length n.offs.length) n.offs.length xs) /\ Hid (∀ b < q, xs[b]? = some (iV (-1))) /\ Hid (Below w0.heap.size w0 wr) /\ Hid (w0.heap.size < wr.heap.size)) (fun i _ => 60 - (intOf i).toNat)
 case atStart => exact ⟨0, _, by omega, rfl, HO1.out, (fun b hb => by omega), HB1.out, HL1.out⟩
 case round =>
 clear HO1 HB1 HL1
 obtain ⟨q, xs, hq, rfl, HO, HQ, HBW, HL⟩ := hrel
 have q0 : (0 : Int) <= (q : Int) := by omega
 by_cases hqt : q < n.offs.length
 case pos =>
  have q1 : (q : Int) < (n.offs.length : Int) := by omega
  have hlen := HO.out.1
  obtain ⟨g, hge, -, -, hfz, hcell⟩ := gC HO.out (by omega)
  cases hge
  obtain ⟨z0, hz0'⟩ : ∃ u, xs[q]? = some u := ⟨_, aD (by omega)⟩
  have hck : wr.cell? (aV w0.heap.size q) = some z0 := hcell q _ hz0'
  have hfk := hfz q
  have HO3 : Hid ((wr.setCell (aV w0.heap.size q) (iV (-1))).ownsRow w0.heap.size 3 1 (.slice (some (aV w0.heap.size 0)) n.offs.length n.offs.length) n.offs.length (xs.set q (iV (-1)))) := fi HO.out q (iV (-1))
  have HB3 : Hid (Below w0.heap.size w0 (wr.setCell (aV w0.heap.size q) (iV (-1)))) := HBW.out.setCell (aH _) _
  have HL3 : Hid (w0.heap.size < (wr.setCell (aV w0.heap.size q) (iV (-1))).heap.size) := by show _ < _; simp; exact HL.out
  have HQ3 : Hid (∀ b < q + 1, (xs.set q (iV (-1)))[b]? = some (iV (-1))) := fun b hb => by
   by_cases hbq : b = q
   ·subst hbq
    rw [List.getElem?_set_self (by omega)]
   ·rw [List.getElem?_set_ne (by omega)]
    exact HQ.out b (by omega)
  clear hz0' hcell hfz HO HQ HBW HL hlen
  go_wp2_with fail
  go_roundw
  case rel => exact ⟨q + 1, xs.set q (iV (-1)), by omega, by go_num, HO3.out, HQ3.out, HB3.out, HL3.out⟩
  case measure => simp [intOf]; omega
 have q1 : ¬ (q : Int) < (n.offs.length : Int) := by omega
 have hxs : xs = (List.replicate n.offs.length (-1)).map iV := by
  have hl := HO.out.1
  rw [Nat.mul_one] at hl
  refine List.ext_getElem? fun b => ?_
  by_cases hb : b < n.offs.length
  ·rw [HQ.out b (by omega)]
   simp [hb]
  ·rw [List.getElem?_eq_none (by omega), List.getElem?_eq_none (by simp; omega)]
 have HM0 : Hid (Mk w0 n.offs.length (List.replicate n.offs.length (-1)) wr) := ⟨by rw [<- hxs]; exact HO.out, HBW.out, HL.out⟩
 have HM1 := aB (HM0.out.set k 0)
 have HGI := aB (gJ.init (es := am n) hlt)
 obtain ⟨ck, fk⟩ := HM0.out.cell (j := k) (v := -1) (by simp [hlt])
 clear hxs HO HQ HBW HL hq q0
 go_wp2_with fail
 clear ck fk q1
 go_loopw [7] (fun i wr => ∃ (r : Nat) (ys : List Int), r <= n.offs.length /\ i = iV r /\ Hid (Mk w0 n.offs.length ys wr) /\ Hid (fG (am n) n.offs.length k (5000 * (64 * (r : Int))) ys) /\ Hid (gJ (am n) 0 r k ys)) (fun i _ => 60 - (intOf i).toNat)
 case atStart => exact ⟨0, _, by omega, rfl, HM1.out, fG.init _ _, HGI.out⟩
 case round =>
 clear HM0 HM1
 obtain ⟨r, ys, hr, rfl, HM, HR, HGR⟩ := hrel
 have r0 : (0 : Int) <= (r : Int) := by omega
 by_cases hrt : r < n.offs.length
 case neg =>
  have r1 : ¬ (r : Int) < (n.offs.length : Int) := by omega
  have HFU : Hid (qK (am n) k ys) := HGR.out.fin' (by omega) HR.out.1
  obtain ⟨rows, d1, d2, d3⟩ := HD.out
  have D1 := aB d1
  have D2 := aB d2
  have D3 := aB d3
  have HO2 := aB (aq d2 HM.out.bel)
  have HWB : Hid (X + 1 <= w0.heap.size) := aG HWL.out HB.out.size
  clear d1 d2 d3
  go_wp2_with (refine bg (by rfl) (.tmp 96) (.tmp 98) 30 30 (by rfl) (X + 1) 46 i1 _ 1 24 Tryz.underlying30 hi1 hy0 hy1 hy2 (by rfl) _ k _ (by rfl) (HO2.out.alloc (.cells #[.slice (some (aV w0.heap.size 0)) n.offs.length n.offs.length] 46)) _ (by rfl) 1 [.slice (some (aV w0.heap.size 0)) n.offs.length n.offs.length] (fB 1 Tryz.underlying30 (Rd.new _ [.slice (some (aV w0.heap.size 0)) n.offs.length n.offs.length] _) rfl (by simp [Value.oneCell'])) (by unfold maxLen; omega) (by omega) (by have := HWB.out; have := HM.out.lt; simp; omega) ?_; intro A5 c5 w4 ho hgr hbl; have HD4 := aB (ow.push D1.out D2.out D3.out (HM.out.alloc _) HR.out HFU.out HWB.out ho hgr (hbl.imp id fun e => ⟨_, e, aH _⟩)); have HB4 : Hid (Below (X + 1) W w4) := bp (HB.out.trans ((HM.out.bel.mono HWB.out).alloc (aG HWB.out (aI HM.out.lt)) _)) HWL.out (HO2.out.alloc _) (aH _) hgr; clear ho hgr hbl)
  go_roundw
  case rel => exact ⟨k + 1, by omega, by go_num, HD4.out, HB4.out⟩
  case measure => simp [intOf]; omega
 have r1 : (r : Int) < (n.offs.length : Int) := by omega
 go_wp2_with fail
 go_loopw [8] (fun i wr => ∃ (q : Nat) (ys : List Int), q <= n.lins.length /\ i = iV q /\ Hid (Mk w0 n.offs.length ys wr) /\ Hid (fG (am n) n.offs.length k (5000 * (64 * (r : Int) + (q : Int))) ys) /\ Hid (gJ (am n) q r k ys)) (fun i _ => 60 - (intOf i).toNat)
 case atStart => exact ⟨0, ys, by omega, rfl, HM.out, HR.out.mono (by omega), HGR.out⟩
 case round =>
 clear HM HR HGR
 obtain ⟨q, ys, hq, rfl, HM, HR, HGR⟩ := hrel
 have q0 : (0 : Int) <= (q : Int) := by omega
 have HNQ : Hid (br wr X n) := (HNB.out _ (HB.out.trans (HM.out.bel.mono (aG HWL.out HB.out.size)))).2
 have n4 : wr.cell? (aV X 4) = some (.slice n.linA n.lins.length n.linC) := HNQ.out.box 4 _ rfl
 by_cases hqt : q < n.lins.length
 case neg =>
  have q1 : ¬ (q : Int) < (n.lins.length : Int) := by omega
  have HR2 := aB (HR.out.mono (C := 5000 * (64 * ((r + 1 : Nat) : Int))) (by omega))
  have HG2 : Hid (gJ (am n) 0 (r + 1) k ys) := gJ.next (by rw [uv, show n.lins.length = q by omega]; exact HGR.out)
  go_wp2_with fail
  go_roundw
  case rel => exact ⟨r + 1, ys, by omega, by go_num, HM.out, HR2.out, HG2.out⟩
  case measure => simp [intOf]; omega
 have q1 : (q : Int) < (n.lins.length : Int) := by omega
 have hx : n.lins[q]? = some (af n q) := bC hqt
 have hg := HGL.out _ (aF hx)
 have HEQ0 : Hid ((am n)[q]? = some ((af n q).frm.toNat, (af n q).to.toNat, (af n q).travel)) := by show _ = _; unfold am; rw [aS, hx]; rfl
 have hed : ((af n q).frm.toNat, (af n q).to.toNat, (af n q).travel) ∈ am n := List.mem_map.2 ⟨_, aF hx, rfl⟩
 obtain ⟨-, lb, lo, hlA, -, hc0, hcc⟩ := ay bT HNQ.out.net.lins hx (by omega)
 have x0 := hc0 _ rfl
 have x1 := hcc 1 _ rfl
 have x2 := hcc 2 _ rfl
 have x3 := hcc 3 _ rfl
 have x4 := hcc 4 _ rfl
 have x5 := hcc 5 _ rfl
 rw [hlA] at n4
 clear hc0 hcc hlA hx
 generalize af n q = L at *
 obtain ⟨lname, lf, lt, la, ltr, lld⟩ := L
 obtain ⟨⟨f0, f1⟩, ⟨t0, t1⟩, -, -, tr0, tr1⟩ := hg
 obtain ⟨f, rfl⟩ := aN f0
 obtain ⟨t, rfl⟩ := aN t0
 dsimp only at *
 have hf12 : f < n.offs.length := by omega
 have ht12 : t < n.offs.length := by omega
 simp only [Int.toNat_natCast] at hed
 have HED := aB hed; clear hed
 have HEQ : Hid ((am n)[q]? = some (f, t, ltr)) := HEQ0.out
 clear HEQ0
 have hyl := HR.out.1
 obtain ⟨vf, hvf⟩ : ∃ v, ys[f]? = some v := ⟨_, aD (by omega)⟩
 obtain ⟨vt, hvt⟩ : ∃ v, ys[t]? = some v := ⟨_, aD (by omega)⟩
 have HVF := aB (HR.out.2 f vf hvf)
 have HFT := aB (And.intro hvf hvt)
 have HVT := aB (HR.out.2 t vt hvt)
 have rvf : -1 <= vf /\ vf <= 5000 * (64 * (r : Int) + (q : Int)) := by rcases HVF.out with h | ⟨a, b, -⟩ <;> omega
 have rvt : -1 <= vt /\ vt <= 5000 * (64 * (r : Int) + (q : Int)) := by rcases HVT.out with h | ⟨a, b, -⟩ <;> omega
 go_upto_region 20 with fail
 have HM3 := aB (HM.out.alloc (.cells #[sV lname, iV f, iV t, iV la, iV ltr, iV lld] 52))
 have hLN := aC wr (.cells #[sV lname, iV f, iV t, iV la, iV ltr, iV lld] 52)
 have b1 : (wr.alloc (.cells #[sV lname, iV f, iV t, iV la, iV ltr, iV lld] 52)).cell? (aV wr.heap.size 1) = some (iV f) := aA 1 hLN
 have b2 : (wr.alloc (.cells #[sV lname, iV f, iV t, iV la, iV ltr, iV lld] 52)).cell? (aV wr.heap.size 2) = some (iV t) := aA 2 hLN
 have b4 : (wr.alloc (.cells #[sV lname, iV f, iV t, iV la, iV ltr, iV lld] 52)).cell? (aV wr.heap.size 4) = some (iV ltr) := aA 4 hLN
 obtain ⟨rf, -⟩ := HM3.out.cell hvf
 obtain ⟨rt, ft⟩ := HM3.out.cell hvt
 change Code.wp _ _ _ _ (wr.alloc (.cells #[sV lname, iV f, iV t, iV la, iV ltr, iV lld] 52))
 clear hLN n4 x0 x1 x2 x3 x4 x5 HNQ HM hvf hvt
 generalize (wr.alloc (.cells #[sV lname, iV f, iV t, iV la, iV ltr, iV lld] 52)) = W3 at *
 generalize wr.heap.size = Y at *
 have f2 : (0 : Int) <= (f : Int) := by omega
 have t2 : (0 : Int) <= (t : Int) := by omega
 have e1 : IntKind.i64.wrap (vf + ltr) = vf + ltr := aO _ (by omega)
 by_cases hv0 : 0 <= vf
 case neg =>
  have g1 : decide (0 <= vf) = false := by simpa using hv0
  have HR2 := aB (HR.out.mono (C := 5000 * (64 * (r : Int) + ((q + 1 : Nat) : Int))) (by omega))
  have HG2 := aB (HGR.out.skip HEQ.out (.inl (by rw [ju HFT.out.1]; exact hv0)))
  go_wp2_with fail
  go_quiet (fail)
  go_wp2_with fail
  go_roundw
  case rel => exact ⟨q + 1, ys, by omega, by go_num, HM3.out.drewN _, HR2.out, HG2.out⟩
  case measure => simp [intOf]; omega
 have HWK : Hid (Wlk (am n) k t (vf + ltr)) := by
  rcases HVF.out with h | ⟨-, -, h⟩
  ·exfalso; omega
  ·exact h.snoc HED.out
 have HR2 := aB ((HR.out.mono (C := 5000 * (64 * (r : Int) + ((q + 1 : Nat) : Int))) (by omega)).set (b := t) (v := vf + ltr) (by omega) (by omega) HWK.out)
 have HR3 := aB (HR.out.mono (C := 5000 * (64 * (r : Int) + ((q + 1 : Nat) : Int))) (by omega))
 have HG3 := aB (HGR.out.put HEQ.out (v := vf + ltr) (by rw [ju HFT.out.1]; exact hv0) (by omega) HFT.out.2)
 by_cases hv1 : vt < 0
 case pos =>
  go_wp2_with fail
  go_quiet (fail)
  go_wp2_with fail
  have HM4 := aB (HM3.out.drewN nq)
  have d1 : (W3.drewN nq).cell? (aV Y 1) = some (iV f) := b1
  have d2 : (W3.drewN nq).cell? (aV Y 2) = some (iV t) := b2
  have d4 : (W3.drewN nq).cell? (aV Y 4) = some (iV ltr) := b4
  have df : (W3.drewN nq).cell? (aV w0.heap.size f) = some (iV vf) := rf
  have dt : (W3.drewN nq).cell? (aV w0.heap.size t) = some (iV vt) := rt
  have dz : (W3.drewN nq).frozen? (aV w0.heap.size t) = false := ft
  clear b1 b2 b4 rf rt ft
  generalize W3.drewN nq = W4 at *
  go_still_tail 12, (by kernel_rfl)
  go_wp2_with fail
  go_roundw
  case rel => exact ⟨q + 1, ys.set t (vf + ltr), by omega, by go_num, (HM4.out.set _ _).drew, HR2.out, HG3.out⟩
  case measure => simp [intOf]; omega
 by_cases hv2 : vf + ltr < vt
 case neg =>
  have g3 : decide (vf + ltr < vt) = false := by simpa using hv2
  have HG2 := aB (HGR.out.skip HEQ.out (.inr (by rw [ju HFT.out.2]; omega)))
  go_wp2_with fail
  go_quiet (fail)
  go_wp2_with fail
  go_roundw
  case rel => exact ⟨q + 1, ys, by omega, by go_num, HM3.out.drewN _, HR3.out, HG2.out⟩
  case measure => simp [intOf]; omega
 go_wp2_with fail
 go_quiet (fail)
 go_wp2_with fail
 have HM4 := aB (HM3.out.drewN nq)
 have d1 : (W3.drewN nq).cell? (aV Y 1) = some (iV f) := b1
 have d2 : (W3.drewN nq).cell? (aV Y 2) = some (iV t) := b2
 have d4 : (W3.drewN nq).cell? (aV Y 4) = some (iV ltr) := b4
 have df : (W3.drewN nq).cell? (aV w0.heap.size f) = some (iV vf) := rf
 have dt : (W3.drewN nq).cell? (aV w0.heap.size t) = some (iV vt) := rt
 have dz : (W3.drewN nq).frozen? (aV w0.heap.size t) = false := ft
 clear b1 b2 b4 rf rt ft
 generalize W3.drewN nq = W4 at *
 go_still_tail 12, (by kernel_rfl)
 go_wp2_with fail
 go_roundw
 case rel => exact ⟨q + 1, ys.set t (vf + ltr), by omega, by go_num, (HM4.out.set _ _).drew, HR2.out, HG3.out⟩
 case measure => simp [intOf]; omega
theorem ug {n : Net} (hc : jB n) {a b : Nat} (ha : a < 12) (hb : b < 12) {L : Int} (h : Wlk (am n) a b L) : de (am n) a b ≠ -1 := (sI (by omega) (kC hc.lins) ha hb h).1
def ChkS (w : World) (n : Net) (e : Ending) (w' : World) : Prop := ∃ A m c, e = .returned (.slice A m c) /\ (m = 0 ↔ bM n) /\ m <= 400 /\ Below w.heap.size w w'
def qO (w : World) (v : Value) (A3 : Option Addr) (rows : List NsC) : Prop :=
 Rd w A3 (rows.map slI) /\ (∀ a, A3 = some a -> v.ownBlock ≠ some a.block /\ a.block < w.heap.size) /\ ∀ (j : Nat) (r : NsC), rows[j]? = some r -> (∃ g, r.A = some (aV g 0) /\ v.ownBlock ≠ some g /\ g < w.heap.size) /\ Rd w r.A (r.ns.map iV)
theorem qO.alloc {w : World} {v : Value} {A3 : Option Addr} {rows : List NsC} (h : qO w v A3 rows) (o : Obj) : qO (w.alloc o) v A3 rows :=
 ⟨h.1.below (ba w o), fun a ha => ⟨(h.2.1 a ha).1, by have := (h.2.1 a ha).2; simp; omega⟩, fun j r hr => by
  obtain ⟨⟨g, a, b, c⟩, d⟩ := h.2.2 j r hr
  exact ⟨⟨g, a, b, by simp; omega⟩, d.below (ba w o)⟩⟩
theorem qO.app {w w' : World} {v v' : Value} {A3 : Option Addr} {rows : List NsC} (h : qO w v A3 rows) (hg : w.grownBy w' v.ownBlock) (hb : v'.ownBlock = v.ownBlock ∨ ∃ q, v'.ownBlock = some q /\ w.heap.size <= q) : qO w' v' A3 rows := by
 have hne : ∀ g, g < w.heap.size -> v.ownBlock ≠ some g -> v'.ownBlock ≠ some g := fun g hg hn e => by
  rcases hb with hb | ⟨q, hb, hq⟩
  ·exact hn (hb.symm.trans e)
  ·rw [hb] at e
   cases e
   omega
 refine ⟨h.1.same hg.size fun a ha hl => hg.block _ hl fun q => (h.2.1 a ha).1 q.symm, fun a ha => ⟨hne _ (h.2.1 a ha).2 (h.2.1 a ha).1, Nat.lt_of_lt_of_le (h.2.1 a ha).2 hg.size⟩, fun j r hr => ?_⟩
 obtain ⟨⟨g, a, b, c⟩, d⟩ := h.2.2 j r hr
 refine ⟨⟨g, a, hne g c b, Nat.lt_of_lt_of_le c hg.size⟩, d.same hg.size fun x hx hl => ?_⟩
 rw [a] at hx
 cases hx
 exact hg.block _ hl fun q => b q.symm
theorem rn (n : Net) (w : World) (hn : bj w n) (hf : gx n) :
  Calls Tryz.prog 143 #[bB n] w (ChkS w n) := by
 obtain ⟨i0, hi0, hz0, hz1, hz2⟩ := info_parts mK
 have hb0 := ba w (ae n)
 have hx0 := aC w (ae n)
 have HNP : Hid (br (w.alloc (ae n)) w.heap.size n) := ⟨fun i v hv => (aA _ hx0).trans hv, hn.below hb0⟩
 have HNW := aB hn
 have HF := aB hf
 have HB0 := aB hb0
 have HWL : Hid (w.heap.size + 1 <= (w.alloc (ae n)).heap.size) := aa hx0
 clear hn hf hb0 hx0
 go_enter Tryz.func143, Tryz.ntmps143
 go_upto_region 1 with fail
 change Code.wp _ _ _ _ (w.alloc (ae n))
 generalize (w.alloc (ae n)) = W at *
 generalize hX : w.heap.size = X at *
 have HX := aB hX; clear hX
 have HNB : Hid (∀ wr, Below (X + 1) W wr -> Below w.heap.size w wr /\ br wr X n) := fun wr hb => cW HNW.out HX.out HB0.out HNP.out.box hb
 obtain ⟨n0, n1, n2, n3, n4, n5⟩ := jA HNP.out
 go_wp2_with fail
 refine (mN n _ HNP.out.net HF.out).mono ?_
 rintro e w1 ⟨A, m, c, xs, rfl, ho, h1, hm, hmb, hb⟩
 have HB1 : Hid (Below (X + 1) W w1) := hb.mono HWL.out
 have HO1 := aB (cn ho HWL.out)
 have HM := aB hm
 clear ho h1 hm hb n0 n1 n2 n3 n4 n5
 by_cases hc : jB n
 case neg =>
  have hm0 : 0 < m := by
   rcases Nat.eq_zero_or_pos m with h | h
   ·exact absurd (HM.out.1 h) hc
   ·exact h
  have hm1 : (0 : Int) < (m : Int) := by omega
  have HCN := aB hc
  clear hc
  go_wp2_with fail
  go_ret
  exact ⟨A, m, c, rfl, ⟨fun h => by omega, fun h => absurd h.1 HCN.out⟩, by omega, (HNB.out _ HB1.out).1⟩
 obtain rfl : m = 0 := HM.out.2 hc
 obtain rfl : xs = [] := List.eq_nil_of_length_eq_zero (by simpa using HO1.out.1)
 have HC := aB hc
 have hN12 := hc.off.1
 clear hc HM
 obtain ⟨n0, n1, n2, n3, n4, n5⟩ := jA ((HNB.out _ HB1.out).2)
 go_wp2_with fail
 refine (wG n _ (HNB.out _ HB1.out).2.net HF.out HC.out).mono ?_
 rintro e w2 ⟨A3, c3, rows, rfl, hrl, hrd, hfr, hrows, hb⟩
 have HB2 : Hid (Below (X + 1) W w2) := HB1.out.trans (hb.mono (aG HWL.out HB1.out.size))
 have HO2 := aB (aq HO1.out hb)
 have HLT := aB (fun q hq => (HO1.out.lt q hq).2)
 have HS2 : Hid (qO w2 (.slice A 0 c) A3 rows) := ⟨hrd, fun a ha => ⟨fun h => by have := (HO1.out.lt _ h).2; have := (hfr a ha).1; omega, (hfr a ha).2⟩, fun j r hr => by
  obtain ⟨⟨g, a, b, d⟩, e, -⟩ := hrows j r hr
  exact ⟨⟨g, a, fun h => by have := (HO1.out.lt _ h).2; omega, d⟩, e⟩⟩
 have HRW : Hid (∀ j r, rows[j]? = some r -> ∃ C, fG (am n) n.offs.length j C r.ns /\ qK (am n) j r.ns) := fun j r hr => (hrows j r hr).2.2
 have HRL := aB hrl
 clear hb hrl hrd hfr hrows n0 n1 n2 n3 n4 n5 HO1 HB1 HLT
 generalize hN : n.offs.length = N at *
 have HN := aB hN; clear hN
 go_wp2_with fail
 go_loopw [5, 3] (fun i v wr => ∃ (k m : Nat) (xs : List Value), k <= N /\ m <= k /\ i = iV k /\ Hid (wr.ownsRow (X + 1) 150 3 v m xs) /\ Hid (Below (X + 1) W wr) /\ Hid (qO wr v A3 rows) /\ Hid (m = 0 ↔ ∀ b < k, ∀ a < N, de (am n) a b ≠ -1)) (fun i _ _ => 60 - (intOf i).toNat)
 case atStart => exact ⟨0, 0, [], by omega, by omega, rfl, HO2.out, HB2.out, HS2.out, ⟨fun _ b hb => by omega, fun _ => rfl⟩⟩
 case round =>
 clear HO2 HB2 HS2
 obtain ⟨k, m, xs, hk, hm, rfl, HO, HB, HS, HQ⟩ := hrel
 obtain ⟨A2, c2, rfl⟩ := b9 HO.out
 have k0 : (0 : Int) <= (k : Int) := by omega
 by_cases hlt : k < N
 case neg =>
  have k1 : ¬ (k : Int) < (N : Int) := by omega
  have HFIN : Hid (m = 0 ↔ bM n) := ⟨fun h => ⟨HC.out, fun b hb a ha => HQ.out.1 h b (by have := HN.out; omega) a (by have := HN.out; omega)⟩, fun h => HQ.out.2 fun b hb a ha => h.2 b (by have := HN.out; omega) a (by have := HN.out; omega)⟩
  go_wp2_with fail
  go_ret
  exact ⟨A2, m, c2, rfl, HFIN.out, by omega, (HNB.out _ HB.out).1⟩
 have k1 : (k : Int) < (N : Int) := by omega
 go_wp2_with fail
 go_loop [7, 6] (fun i v => ∃ (a : Nat) (b : Bool), a <= N /\ i = iV a /\ v = .bool b /\ Hid (b = false ↔ ∀ j < a, de (am n) j k ≠ -1)) (fun i _ => 60 - (intOf i).toNat)
 case atStart => exact ⟨0, false, by omega, rfl, rfl, ⟨fun _ j hj => by omega, fun _ => rfl⟩⟩
 case round =>
 obtain ⟨a, b, ha, rfl, rfl, HJ⟩ := hrel
 have a0 : (0 : Int) <= (a : Int) := by omega
 by_cases hat : a < N
 case pos =>
  have a1 : (a : Int) < (N : Int) := by omega
  cases b
  case true =>
   have HJ2 : Hid (¬ ∀ j < a + 1, de (am n) j k ≠ -1) := fun h => by have := HJ.out.2 (fun j hj => h j (by omega)); cases this
   go_wp2_with fail
   go_round
   case rel => exact ⟨a + 1, true, by omega, by go_num, rfl, ⟨(fun h => by cases h), fun h => absurd h HJ2.out⟩⟩
   case measure => simp [intOf]; omega
  obtain ⟨r, hr⟩ : ∃ r, rows[a]? = some r := ⟨_, aD (by have := HRL.out; omega)⟩
  obtain ⟨C, hrok, hfull⟩ := HRW.out a r hr
  have HFL := aB hfull; clear hfull
  obtain ⟨v, hv⟩ : ∃ v, r.ns[k]? = some v := ⟨_, aD (by have := hrok.1; have := HN.out; omega)⟩
  have HV := aB (hrok.2 k v hv)
  have HVD := aB (ju hv)
  have hrl : r.ns.length = N := by have := hrok.1; have := HN.out; omega
  obtain ⟨⟨g, hgA, -, -⟩, hrr⟩ := HS.out.2.2 a r hr
  obtain ⟨db, dof, hdA, -, hdc⟩ := HS.out.1.get (i := a) (by rw [List.length_map]; have := HRL.out; omega)
  have x1 : wr.cell? (aV db (dof + a)) = some (.slice (some (aV g 0)) N r.c) := hdc a _ (by rw [aS, hr]; show some (Value.slice r.A r.ns.length r.c) = _; rw [hgA, hrl])
  have x2 : wr.cell? (aV g k) = some (iV v) := by
   rw [hgA] at hrr
   have hlen : k < r.ns.length := by omega
   have := hrr.cell (i := k) (by rw [List.length_map]; exact hlen)
   rw [Nat.zero_add] at this
   rw [this]
   congr 1
   have h5 := (aE.1 hv).2
   simp [h5]
  have HDA := aB hdA
  subst hdA
  clear hdc hrr hr hv hgA hrok hrl
  by_cases hv0 : v < 0
  ·have HJ2 : Hid (¬ ∀ j < a + 1, de (am n) j k ≠ -1) := fun h => by
    have := HFL.out k _ (uw (by omega) (kC HC.out.lins) (h a (by omega)))
    rw [HVD.out] at this
    omega
   go_wp2_with fail
   go_round
   case rel => exact ⟨a + 1, true, by omega, by go_num, rfl, ⟨(fun h => by cases h), fun h => absurd h HJ2.out⟩⟩
   case measure => simp [intOf]; omega
  ·have HJ2 : Hid (∀ j < a + 1, de (am n) j k ≠ -1) := fun j hj => by
    rcases Nat.lt_or_ge j a with h | h
    ·exact HJ.out.1 rfl j h
    ·obtain rfl : j = a := by omega
     rcases HV.out with h2 | ⟨-, -, h2⟩
     ·exfalso; omega
     ·exact ug HC.out (by omega) (by omega) h2
   go_wp2_with fail
   go_round
   case rel => exact ⟨a + 1, false, by omega, by go_num, rfl, ⟨fun _ => HJ2.out, fun _ => rfl⟩⟩
   case measure => simp [intOf]; omega
 have a1 : ¬ (a : Int) < (N : Int) := by omega
 have HAN := aB (show a = N by omega)
 cases b
 case false =>
  have HQ2 : Hid (m = 0 ↔ ∀ b < k + 1, ∀ a < N, de (am n) a b ≠ -1) := ⟨fun h b hb j hj => by
   rcases Nat.lt_or_ge b k with h1 | h1
   ·exact HQ.out.1 h b h1 j hj
   ·obtain rfl : b = k := by omega
    exact HJ.out.1 rfl j (by omega), fun h => HQ.out.2 fun b hb => h b (by omega)⟩
  go_wp2_with fail
  go_roundw
  case rel => exact ⟨k + 1, m, xs, by omega, by omega, by go_num, HO.out, HB.out, HS.out, HQ2.out⟩
  case measure => simp [intOf]; omega
 go_wp2_with (refine bg (by rfl) (.tmp 40) (.tmp 43) 85 85 (by rfl) (X + 1) 150 i0 _ 3 24 Tryz.underlying85 hi0 hz0 hz1 hz2 (by rfl) _ m xs (by rfl) (HO.out.alloc (.cells #[iV 3, iV k, iV 111] 150)) _ (by rfl) 1 [iV 3, iV k, iV 111] (fB 3 Tryz.underlying85 (Rd.new _ [iV 3, iV k, iV 111] _) rfl (by simp [Value.oneCell'])) (by unfold maxLen; omega) (by omega) (by have := HWL.out; have := HB.out.size; simp; omega) ?_; intro A5 c5 w4 ho hgr hbl; have HO4 := aB ho; have HB4 := aB (bp (HB.out.alloc (aG HWL.out HB.out.size) _) HWL.out (HO.out.alloc _) (aH _) hgr); have HS4 := aB ((HS.out.alloc (.cells #[iV 3, iV k, iV 111] 150)).app hgr (hbl.imp id fun e => ⟨_, e, aH _⟩)); clear ho hgr hbl)
 go_roundw
 case rel => exact ⟨k + 1, m + 1, xs ++ [iV 3, iV k, iV 111], by omega, by omega, by go_num, HO4.out, HB4.out, HS4.out, ⟨fun h => by omega, fun h => by have := HJ.out.2 (fun j hj => h k (by omega) j (by have := HAN.out; omega)); cases this⟩⟩
 case measure => simp [intOf]; omega
theorem rg (n : Net) (w : World) (hn : bj w n) (hf : gx n) :
  Calls Tryz.prog 84 #[bB n] w fun e w' => ij (fun b => b = true ↔ bM n) e /\ Below w.heap.size w w' := by
 have hb0 := ba w (ae n)
 have hx0 := aC w (ae n)
 have HNP : Hid (br (w.alloc (ae n)) w.heap.size n) := ⟨fun i v hv => (aA _ hx0).trans hv, hn.below hb0⟩
 have HB0 := aB hb0
 have HF := aB hf
 clear hn hf hb0 hx0
 go_enter Tryz.func84, Tryz.ntmps84
 go_upto_region 1 with fail
 change Code.wp _ _ _ _ (w.alloc (ae n))
 generalize (w.alloc (ae n)) = W at *
 generalize hX : w.heap.size = X at *
 have HX := aB hX; clear hX
 have HNB : Hid (∀ wr, Below W.heap.size W wr -> Below w.heap.size w wr) := fun wr hb => by have h := HB0.out; rw [<- HX.out] at h; exact bt h hb
 obtain ⟨n0, n1, n2, n3, n4, n5⟩ := jA HNP.out
 go_wp2_with fail
 refine (rn n _ HNP.out.net HF.out).mono ?_
 rintro e w1 ⟨A, m, c, rfl, hm, hmb, hb⟩
 have HM := aB hm
 have HB := aB hb
 clear hm hb n0 n1 n2 n3 n4 n5
 by_cases h0 : m = 0
 ·have HS : Hid (bM n) := HM.out.1 h0
  subst h0
  clear HM
  go_wp2_with fail
  go_ret
  exact ⟨⟨true, rfl, ⟨fun _ => HS.out, fun _ => rfl⟩⟩, HNB.out _ HB.out⟩
 ·have e1 : ((m : Int) == 0) = false := by simp; omega
  have H0 := aB h0
  clear h0
  go_wp2_with fail
  go_ret
  exact ⟨⟨false, rfl, ⟨(fun h => by cases h), fun h => absurd (HM.out.2 h) H0.out⟩⟩, HNB.out _ HB.out⟩
theorem rh (n : Net) (w : World) (hn : bj w n) (hf : gx n) :
  Calls Tryz.prog 84 #[bB n] w fun e w' => ij (fun b => b = true -> bM n) e /\ Below w.heap.size w w' :=
 (rg n w hn hf).mono fun _ _ ⟨⟨b, h1, h2⟩, h3⟩ => ⟨⟨b, h1, h2.1⟩, h3⟩
end Go.Proofs.YtpeaiphdkgifaaaGreatDoor
