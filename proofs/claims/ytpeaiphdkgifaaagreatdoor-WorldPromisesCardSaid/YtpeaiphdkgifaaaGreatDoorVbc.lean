/- The walks over world's test of deeds, where they are right: its -/
import Derived.Test.YtpeaiphdkgifaaaGreatDoorVbb
import Derived.Test.YtpeaiphdkgifaaaGreatDoorVax
import Derived.Test.YtpeaiphdkgifaaaGreatDoorVay
namespace Go.Proofs.YtpeaiphdkgifaaaGreatDoor
open Go.RowKit
set_option maxHeartbeats 20000000
set_option maxRecDepth 100000
section
open Go.Maps (Keyed)
def uf (L : List (List UInt8)) (l : List UInt8) : Option Value := if l ∈ L then some (.bool true) else none
theorem vV (L : List (List UInt8)) (x : List UInt8) : (fun l => if l = x then some (.bool true) else uf L l) = uf (L ++ [x]) := by
 funext l
 unfold uf
 by_cases h : l = x
 ·simp [h]
 ·simp [h]
def rulF (X : Nat) (k : Int) : Option Value :=
 if k = 1 then some (.func (.func 90) #[] #[.pointer (some (aV (X + 1 + 1) 0)), .pointer (some (aV (X + 1 + 1 + 1) 0)), .pointer (some (aV X 0))])
 else if k = 2 then some (.func (.func 89) #[] #[.pointer (some (aV (X + 1 + 1) 0))])
 else if k = 3 then some (.func (.func 89) #[] #[.pointer (some (aV (X + 1 + 1) 0))])
 else if k = 4 then some (.func (.func 92) #[] #[.pointer (some (aV (X + 1 + 1 + 1 + 1) 0)), .pointer (some (aV (X + 1 + 1) 0))])
 else if k = 5 then some (.func (.func 93) #[] #[.pointer (some (aV (X + 1 + 1 + 1) 0)), .pointer (some (aV X 0))])
 else none
structure WfS (w : World) (X : Nat) (n : Net) (L : List (List UInt8)) (V : World) : Prop where
 bel : Below w.heap.size w V
 p0 : V.heap[X]? = some (ae n)
 p5 : V.heap[X + 1 + 1]? = some (.cells #[.map (some (X + 1))] 153 (0, 0))
 p6 : V.heap[X + 1 + 1 + 1]? = some (.cells #[.func (.func 88) #[] #[]] 121 (0, 0))
 p7 : V.heap[X + 1 + 1 + 1 + 1]? = some (.cells #[.func (.func 89) #[] #[.pointer (some (aV (X + 1 + 1) 0))]] 154 (0, 0))
 map : ∃ m, m <= L.length /\ dG Tryz.prog 9 V (X + 1) m (mY (uf L))
 rul : dG Tryz.prog 3 V (X + 1 + 1 + 1 + 1 + 1) 5 (mH (rulF X))
theorem WfS.below {w V V' : World} {X : Nat} {n : Net} {L : List (List UInt8)} (h : WfS w X n L V) (hb : Below V.heap.size V V') : WfS w X n L V' := by
 obtain ⟨m, hm, h1⟩ := h.map
 exact ⟨h.bel.trans (hb.mono h.bel.size), (hb.block _ (aa h.p0)).trans h.p0, (hb.block _ (aa h.p5)).trans h.p5, (hb.block _ (aa h.p6)).trans h.p6, (hb.block _ (aa h.p7)).trans h.p7, ⟨m, hm, h1.below hb⟩, h.rul.below hb⟩
theorem WfS.look {w V : World} {X : Nat} {n : Net} {L : List (List UInt8)} (h : WfS w X n L V) {l : List UInt8} (hl : l.length <= 1000) (b : Bool) (hb : b = decide (l ∈ L)) : (Instr.lookup 153 (.map (some (X + 1))) (sV l) false).run Tryz.prog V = .ok (.bool b) V := by
 subst hb
 obtain ⟨m, -, h1⟩ := h.map
 have := h1.look vX Tryz.underlying153 (pf V) (kx l (by unfold maxLen; omega)) false
 rw [this]
 simp only [lO]
 unfold uf
 by_cases e : l ∈ L
 ·simp [e]
 ·simp [e]
theorem nH (i m : Int) (h1 : 0 <= i) (h2 : i < m) (w : World) : Calls Tryz.prog 88 #[iV i, iV m] w fun e w' => e = .returned (.bool true) /\ w' = w := by
 go_enter Tryz.func88, Tryz.ntmps88
 go_wp2
 go_ret
 exact ⟨rfl, rfl⟩
theorem kS (w V : World) (X : Nat) (n : Net) (L : List (List UInt8)) (d : Ded) (H : WfS w X n L V) (hl : d.label.length <= 1000) (hm : d.label ∈ L) :
  Calls Tryz.prog 89 #[kF d, .pointer (some (aV (X + 1 + 1) 0))] V fun e V' => e = .returned (.bool true) /\ WfS w X n L V' /\ Below V.heap.size V V' := by
 have hb := ba V (an d)
 have hx := aC V (an d)
 have H1 := H.below hb
 have hlk := H1.look hl true (by simp [hm])
 have c5 : (V.alloc (an d)).cell? (aV (X + 1 + 1) 0) = some (.map (some (X + 1))) := aA 0 H1.p5
 have c7 : (V.alloc (an d)).cell? (aV V.heap.size 7) = some (sV d.label) := aA 7 hx
 have HH := aB H1
 have HB := aB hb
 clear H H1 hb hx hl hm
 go_enter Tryz.func89, Tryz.ntmps89
 go_wp2
 go_ret
 exact ⟨rfl, HH.out, HB.out⟩
abbrev fC (p : Pst) : Obj := .cells #[sV p.label, iV p.frm, iV p.dst, iV p.cls, iV p.acc] 42
theorem tC (w V : World) (X : Nat) (n : Net) (L : List (List UInt8)) (d : Ded) (H : WfS w X n L V) (hX : w.heap.size <= X) (hl : gW d.post.label = true) (hm : d.post.label ∉ L) (hL : L.length < 60) (h1 : 0 <= d.post.frm /\ d.post.frm < n.offs.length) (h2 : 0 <= d.post.dst /\ d.post.dst < n.offs.length) (h3 : 0 <= d.post.cls /\ d.post.cls < n.clss.length) (h4 : d.post.acc = d.time) :
  Calls Tryz.prog 90 #[kF d, .pointer (some (aV (X + 1 + 1) 0)), .pointer (some (aV (X + 1 + 1 + 1) 0)), .pointer (some (aV X 0))] V fun e V' => e = .returned (.bool true) /\ WfS w X n (L ++ [d.post.label]) V' /\ ∀ c, c < V.heap.size -> c ≠ X + 1 -> V'.heap[c]? = V.heap[c]? := by
 have hb : Below V.heap.size V ((V.alloc (an d)).alloc (fC d.post)) := bt (ba V _) (ba _ _)
 have hx : ((V.alloc (an d)).alloc (fC d.post)).heap[V.heap.size]? = some (an d) := (aK _ _ _ (by simp)).trans (aC V (an d))
 have hy : ((V.alloc (an d)).alloc (fC d.post)).heap[V.heap.size + 1]? = some (fC d.post) := by
  have h9 := aC (V.alloc (an d)) (fC d.post)
  rw [aT] at h9
  exact h9
 have k2 : (V.alloc (an d)).cell? (aV V.heap.size 2) = some (sV d.post.label) := aA 2 (aC V (an d))
 have k3 : (V.alloc (an d)).cell? (aV V.heap.size 3) = some (iV d.post.frm) := aA 3 (aC V (an d))
 have k4 : (V.alloc (an d)).cell? (aV V.heap.size 4) = some (iV d.post.dst) := aA 4 (aC V (an d))
 have k5 : (V.alloc (an d)).cell? (aV V.heap.size 5) = some (iV d.post.cls) := aA 5 (aC V (an d))
 have k6 : (V.alloc (an d)).cell? (aV V.heap.size 6) = some (iV d.post.acc) := aA 6 (aC V (an d))
 have HH := aB (H.below hb)
 have HK0 : Hid (∀ c, c < V.heap.size -> ((V.alloc (an d)).alloc (fC d.post)).heap[c]? = V.heap[c]? /\ c < ((V.alloc (an d)).alloc (fC d.post)).heap.size) := fun c hc => ⟨hb.block c hc, Nat.lt_of_lt_of_le hc hb.size⟩
 have HXY : Hid (X + 5 < V.heap.size) := H.rul.lt
 have HX := aB hx
 have HY := aB hy
 have HXX := aB hX
 have HM := aB hm
 have HL := aB hl
 have HLL := aB hL
 have HR := aB (And.intro h1 (And.intro h2 h3))
 have H4 := aB h4
 clear H hb hx hy hm hl hL h1 h2 h3 h4 hX
 go_enter Tryz.func90, Tryz.ntmps90
 go_upto_region 2 with fail
 change Code.wp _ _ _ _ ((V.alloc (an d)).alloc (fC d.post))
 clear k2 k3 k4 k5 k6
 generalize ((V.alloc (an d)).alloc (fC d.post)) = V1 at *
 generalize hYe : V.heap.size = Y at *
 have HYe := aB hYe
 clear hYe
 have q0 : V1.cell? (aV (Y + 1) 0) = some (sV d.post.label) := aA 0 HY.out
 go_wp2_with fail
 refine (qe d.post.label _ HL.out).mono ?_
 rintro e V2 ⟨rfl, hb⟩
 have hh := HH.out.below hb
 have hll : d.post.label.length <= 20 := by
  have := HL.out
  unfold gW at this
  simp only [Bool.and_eq_true, decide_eq_true_eq] at this
  exact this.2
 have hlk := hh.look (l := d.post.label) (by omega) false (by simp [HM.out])
 have c5 : V2.cell? (aV (X + 1 + 1) 0) = some (.map (some (X + 1))) := aA 0 hh.p5
 have hx2 := (hb.block _ (aa HX.out)).trans HX.out
 have hy2 := (hb.block _ (aa HY.out)).trans HY.out
 have r0 : V2.cell? (aV (Y + 1) 0) = some (sV d.post.label) := aA 0 hy2
 have r4 : V2.cell? (aV (Y + 1) 4) = some (iV d.post.acc) := aA 4 hy2
 have r1 : V2.cell? (aV Y 1) = some (iV d.time) := aA 1 hx2
 have e4 : (d.post.acc != d.time) = false := by rw [H4.out]; simp
 obtain ⟨m, hm, hmap⟩ := hh.map
 obtain ⟨W', hrun, hm', hg'⟩ := hmap.store vX Tryz.underlying153 (kx d.post.label (by unfold maxLen; omega)) (.bool true)
 obtain ⟨sz, hsz, hlen⟩ := hmap.len Tryz.underlying153 3
 have hs60 : ¬ (60 : Int) <= (sz : Int) := by have := HLL.out; omega
 have hXY : X + 1 ≠ Y + 1 := by have := HXY.out; omega
 have HMM := aB (And.intro hm hm')
 have HG := aB hg'
 have HK1 : Hid (∀ c, c < Y -> V2.heap[c]? = V.heap[c]? /\ c < V2.heap.size) := fun c hc => ⟨(hb.block c (HK0.out c hc).2).trans (HK0.out c hc).1, Nat.lt_of_lt_of_le (HK0.out c hc).2 hb.size⟩
 have HH2 := aB hh
 have HX2 := aB hx2
 have HY2 := aB hy2
 clear hb hh hm hmap hm' hg' hx2 hy2 q0 HH HX HY H4 hll
 have hs61 : decide ((60 : Int) <= (sz : Int)) = false := by simpa using hs60
 go_upto_region 4 with fail
 have hY' : W'.heap[Y + 1]? = some (fC d.post) := (HG.out.block _ (aa HY2.out) (fun e => hXY (Option.some.inj e).symm)).trans HY2.out
 have hS' : WfS w X n (L ++ [d.post.label]) W' := by
  refine ⟨HH2.out.bel.grown HG.out HH2.out.bel.size (fun x hx => by cases hx; have := HXX.out; omega), (HG.out.block _ (aa HH2.out.p0) (fun e => by have := Option.some.inj e; omega)).trans HH2.out.p0, (HG.out.block _ (aa HH2.out.p5) (fun e => by have := Option.some.inj e; omega)).trans HH2.out.p5, (HG.out.block _ (aa HH2.out.p6) (fun e => by have := Option.some.inj e; omega)).trans HH2.out.p6, (HG.out.block _ (aa HH2.out.p7) (fun e => by have := Option.some.inj e; omega)).trans HH2.out.p7, ⟨m + 1, ?_, ?_⟩, HH2.out.rul.kept (HG.out.block _ HH2.out.rul.lt (fun e => by have := Option.some.inj e; omega))⟩
  ·have := HMM.out.1
   simp
   omega
  ·have h9 := HMM.out.2
   rw [pD, vV] at h9
   exact h9
 have HS' := aB hS'
 have b6 : W'.cell? (aV (X + 1 + 1 + 1) 0) = some (.func (.func 88) #[] #[]) := aA 0 hS'.p6
 have b3 : W'.cell? (aV X 3) = some (.slice n.offA n.offs.length n.offC) := aA 3 hS'.p0
 have b5 : W'.cell? (aV X 5) = some (.slice n.clsA n.clss.length n.clsC) := aA 5 hS'.p0
 have g1 : W'.cell? (aV (Y + 1) 1) = some (iV d.post.frm) := aA 1 hY'
 have g2 : W'.cell? (aV (Y + 1) 2) = some (iV d.post.dst) := aA 2 hY'
 have g3 : W'.cell? (aV (Y + 1) 3) = some (iV d.post.cls) := aA 3 hY'
 have HCI : Hid (∀ (i m : Int) (W : World), 0 <= i -> i < m -> Calls Tryz.prog 88 #[iV i, iV m] W fun e w' => e = .returned (.bool true) /\ w' = W) := fun i m W a b => nH i m a b W
 clear hS' hY'
 go_wp2_with fail
 refine (HCI.out _ _ _ HR.out.1.1 HR.out.1.2).mono ?_
 rintro e w5 ⟨rfl, rfl⟩
 go_wp2_with fail
 refine (HCI.out _ _ _ HR.out.2.1.1 HR.out.2.1.2).mono ?_
 rintro e w5 ⟨rfl, rfl⟩
 go_wp2_with fail
 refine (HCI.out _ _ _ HR.out.2.2.1 HR.out.2.2.2).mono ?_
 rintro e w5 ⟨rfl, rfl⟩
 go_wp2_with fail
 go_ret
 exact ⟨rfl, HS'.out, fun c hc hn => (HG.out.block c (HK1.out c (HYe.out ▸ hc)).2 (fun e => hn (Option.some.inj e))).trans (HK1.out c (HYe.out ▸ hc)).1⟩
theorem tz (w V : World) (X : Nat) (n : Net) (L : List (List UInt8)) (d : Ded) (H : WfS w X n L V) (hl : d.label.length <= 1000 /\ d.other.length <= 1000) (hm : d.label ∈ L) (ho : d.other ∈ L) (hne : d.label ≠ d.other) :
  Calls Tryz.prog 92 #[kF d, .pointer (some (aV (X + 1 + 1 + 1 + 1) 0)), .pointer (some (aV (X + 1 + 1) 0))] V fun e V' => e = .returned (.bool true) /\ WfS w X n L V' /\ Below V.heap.size V V' := by
 have hb := ba V (an d)
 have hx := aC V (an d)
 have H1 := H.below hb
 have c7 : (V.alloc (an d)).cell? (aV (X + 1 + 1 + 1 + 1) 0) = some (.func (.func 89) #[] #[.pointer (some (aV (X + 1 + 1) 0))]) := aA 0 H1.p7
 have k (i : Nat) (v : Value) (hv : (#[iV d.kind, iV d.time, sV d.post.label, iV d.post.frm, iV d.post.dst, iV d.post.cls, iV d.post.acc, sV d.label, sV d.other, iV d.line] : Array Value)[i]? = some v) : (V.alloc (an d)).cell? (aV V.heap.size i) = some v := (aA _ hx).trans hv
 have k0 : (V.alloc (an d)).cell? (aV V.heap.size 0) = some (iV d.kind) := k 0 _ rfl
 have k1 : (V.alloc (an d)).cell? (aV V.heap.size 1) = some (iV d.time) := k 1 _ rfl
 have k2 : (V.alloc (an d)).cell? (aV V.heap.size 2) = some (sV d.post.label) := k 2 _ rfl
 have k3 : (V.alloc (an d)).cell? (aV V.heap.size 3) = some (iV d.post.frm) := k 3 _ rfl
 have k4 : (V.alloc (an d)).cell? (aV V.heap.size 4) = some (iV d.post.dst) := k 4 _ rfl
 have k5 : (V.alloc (an d)).cell? (aV V.heap.size 5) = some (iV d.post.cls) := k 5 _ rfl
 have k6 : (V.alloc (an d)).cell? (aV V.heap.size 6) = some (iV d.post.acc) := k 6 _ rfl
 have k7 : (V.alloc (an d)).cell? (aV V.heap.size 7) = some (sV d.label) := k 7 _ rfl
 have k8 : (V.alloc (an d)).cell? (aV V.heap.size 8) = some (sV d.other) := k 8 _ rfl
 have k9 : (V.alloc (an d)).cell? (aV V.heap.size 9) = some (iV d.line) := k 9 _ rfl
 have HH := aB H1
 have HX := aB hx
 have HBA := aB hb
 have HL := aB hl
 have HM := aB (And.intro hm ho)
 have HN := aB hne
 clear H H1 hb hx hl hm ho hne k
 go_enter Tryz.func92, Tryz.ntmps92
 go_wp2_with fail
 refine (kS w _ X n L d HH.out HL.out.1 HM.out.1).mono ?_
 rintro e V2 ⟨rfl, hh, hb⟩
 have HB := aB hb
 have HH2 := aB hh
 have hx2 := (hb.block _ (aa HX.out)).trans HX.out
 have hlk := hh.look HL.out.2 true (by simp [HM.out.2])
 have c5 : V2.cell? (aV (X + 1 + 1) 0) = some (.map (some (X + 1))) := aA 0 hh.p5
 have r7 : V2.cell? (aV V.heap.size 7) = some (sV d.label) := aA 7 hx2
 have r8 : V2.cell? (aV V.heap.size 8) = some (sV d.other) := aA 8 hx2
 have e9 : (d.label == d.other) = false := by simpa using HN.out
 clear hh hb hx2 c7 k0 k1 k2 k3 k4 k5 k6 k7 k8 k9
 go_wp2_with fail
 go_ret
 exact ⟨rfl, HH2.out, bt HBA.out HB.out⟩
theorem tK (w V : World) (X : Nat) (n : Net) (L : List (List UInt8)) (d : Ded) (H : WfS w X n L V) (h1 : 0 <= d.line /\ d.line < n.lins.length) :
  Calls Tryz.prog 93 #[kF d, .pointer (some (aV (X + 1 + 1 + 1) 0)), .pointer (some (aV X 0))] V fun e V' => e = .returned (.bool true) /\ WfS w X n L V' /\ Below V.heap.size V V' := by
 have hb := ba V (an d)
 have hx := aC V (an d)
 have H1 := H.below hb
 have b6 : (V.alloc (an d)).cell? (aV (X + 1 + 1 + 1) 0) = some (.func (.func 88) #[] #[]) := aA 0 H1.p6
 have b4 : (V.alloc (an d)).cell? (aV X 4) = some (.slice n.linA n.lins.length n.linC) := aA 4 H1.p0
 have k9 : (V.alloc (an d)).cell? (aV V.heap.size 9) = some (iV d.line) := aA 9 hx
 have HH := aB H1
 have HR := aB h1
 have HBA := aB hb
 clear H H1 hb hx h1
 go_enter Tryz.func93, Tryz.ntmps93
 go_wp2_with fail
 refine (nH _ _ HR.out.1 HR.out.2 _).mono ?_
 rintro e V2 ⟨rfl, rfl⟩
 go_wp2_with fail
 go_ret
 exact ⟨rfl, HH.out, HBA.out⟩
theorem vk (w V : World) (X : Nat) (n : Net) (bef : List Ded) (d : Ded) (H : WfS w X n (bD bef) V) (hX : w.heap.size <= X) (hd : iK n bef d) (hL : (bD bef).length < 60) (hp : ∀ l ∈ bD bef, l.length <= 1000) :
  ∃ (g : FuncId) (cap : Array Value), rulF X d.kind = some (.func (.func g) #[] cap) /\ (∀ args W, (callFunc g args).run Tryz.prog W = .ok (.enter g args) W) /\
   Calls Tryz.prog g (#[kF d] ++ cap) V fun e V' => e = .returned (.bool true) /\ WfS w X n (bD (bef ++ [d])) V' /\ ∀ c, c < V.heap.size -> c ≠ X + 1 -> V'.heap[c]? = V.heap[c]? := by
 have hno : d.kind ≠ 1 -> bD (bef ++ [d]) = bD bef := fun h => by
  unfold bD
  rw [List.filter_append]
  simp [h]
 rcases hd with ⟨hk, h1, h2, h3, h4, h5, h6⟩ | ⟨hk, h1⟩ | ⟨hk, h1, h2, h3⟩ | ⟨hk, h1, h2⟩
 ·refine ⟨_, _, by rw [hk]; rfl, fun _ _ => rfl, ?_⟩
  have e : bD (bef ++ [d]) = bD bef ++ [d.post.label] := by
   unfold bD
   rw [List.filter_append]
   simp [hk]
  rw [e]
  exact tC w V X n _ d H hX h1 h2 hL h3 h4 h5 h6
 ·have hl := hp _ h1
  rw [hno (by omega)]
  rcases hk with hk | hk
  ·refine ⟨_, _, by rw [hk]; rfl, fun _ _ => rfl, ?_⟩
   exact (kS w V X n _ d H hl h1).mono (fun _ _ ⟨a, b, c⟩ => ⟨a, b, fun i hi _ => c.block i hi⟩)
  ·refine ⟨_, _, by rw [hk]; rfl, fun _ _ => rfl, ?_⟩
   exact (kS w V X n _ d H hl h1).mono (fun _ _ ⟨a, b, c⟩ => ⟨a, b, fun i hi _ => c.block i hi⟩)
 ·rw [hno (by omega)]
  refine ⟨_, _, by rw [hk]; rfl, fun _ _ => rfl, ?_⟩
  exact (tz w V X n _ d H ⟨hp _ h1, hp _ h2⟩ h1 h2 h3).mono (fun _ _ ⟨a, b, c⟩ => ⟨a, b, fun i hi _ => c.block i hi⟩)
 ·rw [hno (by omega)]
  refine ⟨_, _, by rw [hk]; rfl, fun _ _ => rfl, ?_⟩
  exact (tK w V X n _ d H ⟨h1, h2⟩).mono (fun _ _ ⟨a, b, c⟩ => ⟨a, b, fun i hi _ => c.block i hi⟩)
end
section
open Go.Maps (Keyed)
def eW (d : Ded) : List Value := [iV d.kind, iV d.time, sV d.post.label, iV d.post.frm, iV d.post.dst, iV d.post.cls, iV d.post.acc, sV d.label, sV d.other, iV d.line]
theorem hU (d : Ded) : (eW d).length = 10 := rfl
abbrev fZ (n : Net) (X : Nat) : List Obj := [ae n, .map #[] 0, .cells #[.map (some (X + 1))] 153, .cells #[.func (.func 88) #[] #[]] 121, .cells #[.func (.func 89) #[] #[.pointer (some (aV (X + 1 + 1) 0))]] 154]
theorem jx {n : Net} : ∀ {ds bef : List Ded} {t : Int} {k : Nat} {d : Ded}, bK n bef t ds -> ds[k]? = some d -> t <= d.time /\ d.time <= 1000000 /\ iK n (bef ++ ds.take k) d /\ ∀ e, ds[k + 1]? = some e -> d.time <= e.time
 | [], _, _, _, _, _, h => by simp at h
 | x :: ds, bef, t, 0, d, h, hd => by
  cases Option.some.inj hd
  refine ⟨h.1, h.2.1, by simpa using h.2.2.1, fun e he => ?_⟩
  cases ds with
  | nil => simp at he
  | cons y ds =>
   have : y = e := by simpa using he
   subst this
   exact h.2.2.2.1
 | x :: ds, bef, t, k + 1, d, h, hd => by
  obtain ⟨a1, a2, a3, a4⟩ := jx (k := k) h.2.2.2 (by simpa using hd)
  refine ⟨Int.le_trans h.1 a1, a2, ?_, fun e he => a4 e (by simpa using he)⟩
  have e : bef ++ (x :: ds).take (k + 1) = bef ++ [x] ++ ds.take k := by simp
  rw [e]
  exact a3
theorem rq {n : Net} {ds : List Ded} (h : bK n [] 0 ds) (k : Nat) : ∀ l ∈ bD (ds.take k), l.length <= 1000 := fun l hl => by
 unfold bD at hl
 obtain ⟨d, hd, rfl⟩ := List.mem_map.1 hl
 obtain ⟨hd1, hd2⟩ := List.mem_filter.1 hd
 have hk : d.kind = 1 := by simpa using hd2
 obtain ⟨i, hi⟩ := List.getElem?_of_mem (List.mem_of_mem_take hd1)
 obtain ⟨-, -, h3, -⟩ := jx h hi
 rcases h3 with ⟨-, h4, -⟩ | ⟨h4, -⟩ | ⟨h4, -⟩ | ⟨h4, -⟩
 ·unfold gW at h4
  simp only [Bool.and_eq_true, decide_eq_true_eq] at h4
  omega
 ·omega
 ·omega
 ·omega
theorem rr (ds : List Ded) (k : Nat) : (bD (ds.take k)).length <= ds.length := by
 unfold bD
 rw [List.length_map]
 exact aG (List.length_filter_le _ _) (by simp; omega)
theorem l8 (n : Net) (DA : Option Addr) (DC : Nat) (ds : List Ded) (w : World) (hds : Rd w DA (ds.flatMap eW)) (hd : bK n [] 0 ds) (hl : ds.length <= 50) :
  Calls Tryz.prog 40 #[bB n, .slice DA ds.length DC] w fun e w' => e = .returned (.bool true) /\ Below w.heap.size w w' := by
 have hmf : ∀ (fn : Fn) (first cap : Array Value) (w : World), (Instr.makeFunc fn first cap).run Tryz.prog w = .ok (.func fn first cap) w := fun _ _ _ _ => rfl
 have hmm := gz
 have e0 : ¬ (120 : Int) < (ds.length : Int) := by omega
 go_enter Tryz.func40, Tryz.ntmps40
 go_upto_region 6 with fail
 clear hmm
 have hb5 := bv (fZ n w.heap.size) w
 have hg5 := bN (fZ n w.heap.size) w
 have hz5 : (au w (fZ n w.heap.size)).heap.size = w.heap.size + 1 + 1 + 1 + 1 + 1 := eH (fZ n w.heap.size) w
 have q0 : (au w (fZ n w.heap.size)).heap[w.heap.size]? = some (ae n) := hg5 0 _ rfl
 have q1 : (au w (fZ n w.heap.size)).heap[w.heap.size + 1]? = some (.map #[] 0) := hg5 1 _ rfl
 have q2 : (au w (fZ n w.heap.size)).heap[w.heap.size + 1 + 1]? = some (.cells #[.map (some (w.heap.size + 1))] 153 (0, 0)) := hg5 2 _ rfl
 have q3 : (au w (fZ n w.heap.size)).heap[w.heap.size + 1 + 1 + 1]? = some (.cells #[.func (.func 88) #[] #[]] 121 (0, 0)) := hg5 3 _ rfl
 have q4 : (au w (fZ n w.heap.size)).heap[w.heap.size + 1 + 1 + 1 + 1]? = some (.cells #[.func (.func 89) #[] #[.pointer (some (aV (w.heap.size + 1 + 1) 0))]] 154 (0, 0)) := hg5 4 _ rfl
 change Code.wp _ _ _ _ (au w (fZ n w.heap.size))
 generalize au w (fZ n w.heap.size) = V5 at *
 obtain ⟨X, hX⟩ : ∃ X, w.heap.size = X := ⟨_, rfl⟩
 have HXW := aB hX
 have HB5 := aB hb5
 rw [hX] at q0 q1 q2 q3 q4 hz5 ⊢
 have hm0 : dG Tryz.prog 9 V5 (X + 1) 0 (fun _ => none) := ⟨#[], 0, q1, aH _, by simp, by simp, fun _ _ h => (by cases h), by simp⟩
 have HM1 : Hid (dG Tryz.prog 9 V5 (X + 1) 0 (mY (uf []))) := hm0.eq (by
  rw [pE]
  congr 1)
 clear hm0
 clear hX hg5 hb5
 obtain ⟨U1, r1, m1, g1⟩ := (dG.new V5 Tryz.prog 3).store ky Tryz.underlying155 (dD 1 (iO (by decide) (by decide))) (.func (.func 90) #[] #[.pointer (some (aV (X + 1 + 1) 0)), .pointer (some (aV (X + 1 + 1 + 1) 0)), .pointer (some (aV X 0))])
 obtain ⟨U2, r2, m2, g2⟩ := m1.store ky Tryz.underlying155 (dD 2 (iO (by decide) (by decide))) (.func (.func 89) #[] #[.pointer (some (aV (X + 1 + 1) 0))])
 obtain ⟨U3, r3, m3, g3⟩ := m2.store ky Tryz.underlying155 (dD 3 (iO (by decide) (by decide))) (.func (.func 89) #[] #[.pointer (some (aV (X + 1 + 1) 0))])
 obtain ⟨U4, r4, m4, g4⟩ := m3.store ky Tryz.underlying155 (dD 4 (iO (by decide) (by decide))) (.func (.func 92) #[] #[.pointer (some (aV (X + 1 + 1 + 1 + 1) 0)), .pointer (some (aV (X + 1 + 1) 0))])
 obtain ⟨U5, r5, m5, g5⟩ := m4.store ky Tryz.underlying155 (dD 5 (iO (by decide) (by decide))) (.func (.func 93) #[] #[.pointer (some (aV (X + 1 + 1 + 1) 0)), .pointer (some (aV X 0))])
 have hmk : (Instr.makeMap 155 none).run Tryz.prog V5 = .ok (.map (some (X + 1 + 1 + 1 + 1 + 1))) (V5.alloc (.map #[] 0)) := by rw [<- hz5]; exact gz _ _
 rw [hz5] at r1 m1 g1 r2 m2 g2 r3 m3 g3 r4 m4 g4 r5 m5 g5
 have up : ∀ {a b : World}, Below V5.heap.size V5 a -> a.grownBy b (some (X + 1 + 1 + 1 + 1 + 1)) -> Below V5.heap.size V5 b := fun h g => h.grown g h.size (fun x hx => by cases hx; omega)
 have b1 := up (ba V5 _) g1
 have b2 := up b1 g2
 have b5 := up (up (up b2 g3) g4) g5
 have HWF : Hid (WfS w X n [] U5) := by
  refine ⟨HB5.out.trans (b5.mono HB5.out.size), (b5.block _ (aa q0)).trans q0, (b5.block _ (aa q2)).trans q2, (b5.block _ (aa q3)).trans q3, (b5.block _ (aa q4)).trans q4, ⟨0, aH _, HM1.out.below b5⟩, m5.eq ?_⟩
  rw [mG, dM, dM, dM, dM, dM]
  congr 1
  funext k
  unfold rulF
  by_cases h1 : k = 1
  ·subst h1; rfl
  by_cases h2 : k = 2
  ·subst h2; rfl
  by_cases h3 : k = 3
  ·subst h3; rfl
  by_cases h4 : k = 4
  ·subst h4; rfl
  by_cases h5 : k = 5
  ·subst h5; rfl
  simp [h1, h2, h3, h4, h5]
 have c1 : U1.cell? (aV (X + 1 + 1 + 1 + 1) 0) = some (.func (.func 89) #[] #[.pointer (some (aV (X + 1 + 1) 0))]) := aA 0 ((b1.block _ (aa q4)).trans q4)
 have c2 : U2.cell? (aV (X + 1 + 1 + 1 + 1) 0) = some (.func (.func 89) #[] #[.pointer (some (aV (X + 1 + 1) 0))]) := aA 0 ((b2.block _ (aa q4)).trans q4)
 have HDS := aB hds
 have HD := aB hd
 have HL := aB hl
 clear up b1 b2 b5 m1 m2 m3 m4 m5 g1 g2 g3 g4 g5 q0 q1 q2 q3 q4 hz5 hds hd hl
 go_wp2_with fail
 go_loopw [9, 11, 12, 13, 28] (fun last _ _ _ i wr => ∃ (k : Nat) (T : Int), k <= ds.length /\ last = iV T /\ i = iV k /\ Hid (∀ d, ds[k]? = some d -> T <= d.time) /\ Hid (WfS w X n (bD (ds.take k)) wr)) (fun _ _ _ _ i _ => ds.length + 1 - (intOf i).toNat)
 case atStart => exact ⟨0, 0, Nat.zero_le _, rfl, rfl, aB (fun d hd => (jx HD.out hd).1), HWF⟩
 case round =>
 obtain ⟨k, T, hk, rfl, rfl, HT, HW⟩ := hrel
 clear c1 c2 r1 r2 r3 r4 r5 hmk hmf e0
 have j0 : (0 : Int) <= (k : Int) := by omega
 by_cases hlt : k < ds.length
 case neg =>
  have j1 : ¬ (k : Int) < (ds.length : Int) := by omega
  go_wp2_with fail
  go_ret
  exact ⟨rfl, HW.out.bel⟩
 have j1 : (k : Int) < (ds.length : Int) := by omega
 have HLT := aB hlt
 obtain ⟨d, hd⟩ : ∃ d, ds[k]? = some d := ⟨_, aD hlt⟩
 obtain ⟨d1, d2, d3, d4⟩ := jx HD.out hd
 have hT := HT.out d hd
 obtain ⟨-, db, dof, hDA, -, y0, yj⟩ := ay hU (HDS.out.below HW.out.bel) hd (by omega)
 have z0 : wr.cell? (aV db (dof + k * 10)) = some (iV d.kind) := y0 _ rfl
 have z1 : wr.cell? (aV db (dof + k * 10 + 1)) = some (iV d.time) := yj 1 _ rfl
 have z2 : wr.cell? (aV db (dof + k * 10 + 2)) = some (sV d.post.label) := yj 2 _ rfl
 have z3 : wr.cell? (aV db (dof + k * 10 + 3)) = some (iV d.post.frm) := yj 3 _ rfl
 have z4 : wr.cell? (aV db (dof + k * 10 + 4)) = some (iV d.post.dst) := yj 4 _ rfl
 have z5 : wr.cell? (aV db (dof + k * 10 + 5)) = some (iV d.post.cls) := yj 5 _ rfl
 have z6 : wr.cell? (aV db (dof + k * 10 + 6)) = some (iV d.post.acc) := yj 6 _ rfl
 have z7 : wr.cell? (aV db (dof + k * 10 + 7)) = some (sV d.label) := yj 7 _ rfl
 have z8 : wr.cell? (aV db (dof + k * 10 + 8)) = some (sV d.other) := yj 8 _ rfl
 have z9 : wr.cell? (aV db (dof + k * 10 + 9)) = some (iV d.line) := yj 9 _ rfl
 have HDE := aB hd
 have HD3 := aB (And.intro d1 (And.intro d2 (And.intro d3 d4)))
 have HTT := aB hT
 clear y0 yj d1 d2 d3 d4 hlt hk hd hT
 rw [hDA]
 clear hDA
 go_upto_region 11 with fail
 have hx := aC wr (an d)
 have HA := HW.out.below (ba wr (an d))
 have hz : (zeroValue 154).run Tryz.prog (wr.alloc (an d)) = .ok .nilFunc (wr.alloc (an d)) := by kernel_rfl
 have hkr : I64 d.kind := by
  rcases HD3.out.2.2.1 with ⟨h, -⟩ | ⟨h, -⟩ | ⟨h, -⟩ | ⟨h, -⟩
  ·rw [h]; exact iO (by decide) (by decide)
  ·rcases h with h | h <;> (rw [h]; exact iO (by decide) (by decide))
  ·rw [h]; exact iO (by decide) (by decide)
  ·rw [h]; exact iO (by decide) (by decide)
 have hfew := rr ds k
 obtain ⟨g, cap, hg, hcf, hcall⟩ := vk w _ X n (ds.take k) d HA (by have := HXW.out; omega) (by simpa using HD3.out.2.2.1) (by have := HL.out; omega) (rq HD.out k)
 have hlk := HA.rul.look ky Tryz.underlying155 hz (dD d.kind hkr) true
 have hat : mH (rulF X) (iV d.kind) = some (.func (.func g) #[] cap) := hg
 rw [hat] at hlk
 have hlk2 : (Instr.lookup 155 (.map (some (X + 1 + 1 + 1 + 1 + 1))) (iV d.kind) true).run Tryz.prog (wr.alloc (an d)) = .ok (.tuple #[.func (.func g) #[] cap, .bool true]) (wr.alloc (an d)) := by simpa using hlk
 have kk (i : Nat) (v : Value) (hv : (#[iV d.kind, iV d.time, sV d.post.label, iV d.post.frm, iV d.post.dst, iV d.post.cls, iV d.post.acc, sV d.label, sV d.other, iV d.line] : Array Value)[i]? = some v) : (wr.alloc (an d)).cell? (aV wr.heap.size i) = some v := (aA _ hx).trans hv
 have k0 : (wr.alloc (an d)).cell? (aV wr.heap.size 0) = some (iV d.kind) := kk 0 _ rfl
 have k1 : (wr.alloc (an d)).cell? (aV wr.heap.size 1) = some (iV d.time) := kk 1 _ rfl
 have k2 : (wr.alloc (an d)).cell? (aV wr.heap.size 2) = some (sV d.post.label) := kk 2 _ rfl
 have k3 : (wr.alloc (an d)).cell? (aV wr.heap.size 3) = some (iV d.post.frm) := kk 3 _ rfl
 have k4 : (wr.alloc (an d)).cell? (aV wr.heap.size 4) = some (iV d.post.dst) := kk 4 _ rfl
 have k5 : (wr.alloc (an d)).cell? (aV wr.heap.size 5) = some (iV d.post.cls) := kk 5 _ rfl
 have k6 : (wr.alloc (an d)).cell? (aV wr.heap.size 6) = some (iV d.post.acc) := kk 6 _ rfl
 have k7 : (wr.alloc (an d)).cell? (aV wr.heap.size 7) = some (sV d.label) := kk 7 _ rfl
 have k8 : (wr.alloc (an d)).cell? (aV wr.heap.size 8) = some (sV d.other) := kk 8 _ rfl
 have k9 : (wr.alloc (an d)).cell? (aV wr.heap.size 9) = some (iV d.line) := kk 9 _ rfl
 have HA' := aB HA
 have HC := aB hcall
 have f1 : decide (d.time < T) = false := by have := HTT.out; simpa using this
 have f2 : decide ((1000000 : Int) < d.time) = false := by have := HD3.out.2.1; simpa using this
 clear kk z0 z1 z2 z3 z4 z5 z6 z7 z8 z9 hlk hat hz hkr hfew hg HA hcall
 change Code.wp _ _ _ _ (wr.alloc (an d))
 obtain ⟨x, hxd⟩ : ∃ x, wr.heap.size = x := ⟨_, rfl⟩
 rw [hxd] at k0 k1 k2 k3 k4 k5 k6 k7 k8 k9 hx ⊢
 generalize (wr.alloc (an d)) = V1 at *
 go_wp2_with fail
 refine HC.out.mono ?_
 rintro e V2 ⟨rfl, hW2, hkeep⟩
 have hx2 : V2.heap[x]? = some (an d) := (hkeep x (aa hx) (by have := HXW.out; have := HW.out.rul.lt; omega)).trans hx
 have k1' : V2.cell? (aV x 1) = some (iV d.time) := aA 1 hx2
 have HW2 := aB hW2
 clear hkeep hx2 k0 k1 k2 k3 k4 k5 k6 k7 k8 k9 hW2 hx
 go_wp2_with fail
 have e7 : wrap64 ((k : Int) + 1) = ((k + 1 : Nat) : Int) := by
  have := HL.out
  have := HLT.out
  unfold wrap64
  omega
 rw [e7]
 have e8 : ds.take (k + 1) = ds.take k ++ [d] := by
  rw [List.take_add_one, HDE.out]; rfl
 refine ⟨⟨k + 1, d.time, HLT.out, rfl, rfl, aB (HD3.out.2.2.2), ?_⟩, ?_⟩
 ·rw [e8]
  exact HW2
 ·have := HLT.out
  show ds.length + 1 - (((k + 1 : Nat) : Int)).toNat < ds.length + 1 - ((k : Int)).toNat
  omega
end
end Go.Proofs.YtpeaiphdkgifaaaGreatDoor
