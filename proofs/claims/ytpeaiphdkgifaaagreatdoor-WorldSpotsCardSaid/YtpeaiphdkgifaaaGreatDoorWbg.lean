/-
  The walks over world's test of deeds, where they are right: its rules. The walk over world's test of deeds, where they are right.
-/
import Derived.Test.YtpeaiphdkgifaaaGreatDoorWbf
import Derived.Test.YtpeaiphdkgifaaaGreatDoorWbb
import Derived.Test.YtpeaiphdkgifaaaGreatDoorWbc
namespace Go.Proofs.YtpeaiphdkgifaaaGreatDoor
open Go.RowKit
set_option maxHeartbeats 20000000
set_option maxRecDepth 100000
section
open Go.Maps (Keyed)
def labF (L : List (List UInt8)) (l : List UInt8) : Option Value := if l ∈ L then some (.bool true) else none
theorem labF_add (L : List (List UInt8)) (x : List UInt8) : (fun l => if l = x then some (.bool true) else labF L l) = labF (L ++ [x]) := by
 funext l
 unfold labF
 by_cases h : l = x
 ·simp [h]
 ·simp [h]
def rulF (X : Nat) (k : Int) : Option Value :=
 if k = 1 then some (.func (.func 90) #[] #[.pointer (some ⟨X + 1 + 1, 0, none⟩), .pointer (some ⟨X + 1 + 1 + 1, 0, none⟩), .pointer (some ⟨X, 0, none⟩)])
 else if k = 2 then some (.func (.func 89) #[] #[.pointer (some ⟨X + 1 + 1, 0, none⟩)])
 else if k = 3 then some (.func (.func 89) #[] #[.pointer (some ⟨X + 1 + 1, 0, none⟩)])
 else if k = 4 then some (.func (.func 92) #[] #[.pointer (some ⟨X + 1 + 1 + 1 + 1, 0, none⟩), .pointer (some ⟨X + 1 + 1, 0, none⟩)])
 else if k = 5 then some (.func (.func 93) #[] #[.pointer (some ⟨X + 1 + 1 + 1, 0, none⟩), .pointer (some ⟨X, 0, none⟩)])
 else none
structure WfS (w : World) (X : Nat) (n : Net) (L : List (List UInt8)) (V : World) : Prop where
 bel : Below w.heap.size w V
 p0 : V.heap[X]? = some (netO n)
 p5 : V.heap[X + 1 + 1]? = some (.cells #[.map (some (X + 1))] 153 (0, 0))
 p6 : V.heap[X + 1 + 1 + 1]? = some (.cells #[.func (.func 88) #[] #[]] 121 (0, 0))
 p7 : V.heap[X + 1 + 1 + 1 + 1]? = some (.cells #[.func (.func 89) #[] #[.pointer (some ⟨X + 1 + 1, 0, none⟩)]] 154 (0, 0))
 map : ∃ m, m <= L.length /\ MapV Tryz.prog 9 V (X + 1) m (strF (labF L))
 rul : MapV Tryz.prog 3 V (X + 1 + 1 + 1 + 1 + 1) 5 (intF (rulF X))
theorem WfS.below {w V V' : World} {X : Nat} {n : Net} {L : List (List UInt8)} (h : WfS w X n L V) (hb : Below V.heap.size V V') : WfS w X n L V' := by
 obtain ⟨m, hm, h1⟩ := h.map
 exact ⟨h.bel.trans (hb.mono h.bel.size), (hb.block _ (block_lt h.p0)).trans h.p0, (hb.block _ (block_lt h.p5)).trans h.p5, (hb.block _ (block_lt h.p6)).trans h.p6, (hb.block _ (block_lt h.p7)).trans h.p7, ⟨m, hm, h1.below hb⟩, h.rul.below hb⟩
theorem WfS.look {w V : World} {X : Nat} {n : Net} {L : List (List UInt8)} (h : WfS w X n L V) {l : List UInt8} (hl : l.length <= 1000) (b : Bool) (hb : b = decide (l ∈ L)) : (Instr.lookup 153 (.map (some (X + 1))) (sV l) false).run Tryz.prog V = .ok (.bool b) V := by
 subst hb
 obtain ⟨m, -, h1⟩ := h.map
 have := h1.look keyS Tryz.underlying153 (zeroBool V) (key_str l (by unfold maxLen; omega)) false
 rw [this]
 simp only [strF_at]
 unfold labF
 by_cases e : l ∈ L
 ·simp [e]
 ·simp [e]
theorem index_any (i m : Int) (h1 : 0 <= i) (h2 : i < m) (w : World) : Calls Tryz.prog 88 #[iV i, iV m] w fun e w' => e = .returned (.bool true) /\ w' = w := by
 go_enter Tryz.func88, Tryz.ntmps88
 go_wp2
 go_ret
 exact ⟨rfl, rfl⟩
theorem named_any (w V : World) (X : Nat) (n : Net) (L : List (List UInt8)) (d : Ded) (H : WfS w X n L V) (hl : d.label.length <= 1000) (hm : d.label ∈ L) :
  Calls Tryz.prog 89 #[dedV d, .pointer (some ⟨X + 1 + 1, 0, none⟩)] V fun e V' => e = .returned (.bool true) /\ WfS w X n L V' /\ Below V.heap.size V V' := by
 have hb := ba V (dedO d)
 have hx := heap_alloc_new V (dedO d)
 have H1 := H.below hb
 have hlk := H1.look hl true (by simp [hm])
 have c5 : (V.alloc (dedO d)).cell? ⟨X + 1 + 1, 0, none⟩ = some (.map (some (X + 1))) := cell_of_row _ _ 0 _ _ _ H1.p5
 have c7 : (V.alloc (dedO d)).cell? ⟨V.heap.size, 7, none⟩ = some (sV d.label) := cell_of_row _ _ 7 _ _ _ hx
 have HH := Lib.hid H1
 have HB := Lib.hid hb
 clear H H1 hb hx hl hm
 go_enter Tryz.func89, Tryz.ntmps89
 go_wp2
 go_ret
 exact ⟨rfl, HH.out, HB.out⟩
abbrev postO (p : Pst) : Obj := .cells #[sV p.label, iV p.frm, iV p.dst, iV p.cls, iV p.acc] 42
theorem rpost_any (w V : World) (X : Nat) (n : Net) (L : List (List UInt8)) (d : Ded) (H : WfS w X n L V) (hX : w.heap.size <= X) (hl : labB d.post.label = true) (hm : d.post.label ∉ L) (hL : L.length < 60) (h1 : 0 <= d.post.frm /\ d.post.frm < n.offs.length) (h2 : 0 <= d.post.dst /\ d.post.dst < n.offs.length) (h3 : 0 <= d.post.cls /\ d.post.cls < n.clss.length) (h4 : d.post.acc = d.time) :
  Calls Tryz.prog 90 #[dedV d, .pointer (some ⟨X + 1 + 1, 0, none⟩), .pointer (some ⟨X + 1 + 1 + 1, 0, none⟩), .pointer (some ⟨X, 0, none⟩)] V fun e V' => e = .returned (.bool true) /\ WfS w X n (L ++ [d.post.label]) V' /\ ∀ c, c < V.heap.size -> c ≠ X + 1 -> V'.heap[c]? = V.heap[c]? := by
 have hb : Below V.heap.size V ((V.alloc (dedO d)).alloc (postO d.post)) := bt (ba V _) (ba _ _)
 have hx : ((V.alloc (dedO d)).alloc (postO d.post)).heap[V.heap.size]? = some (dedO d) := (Below.heap_alloc _ _ _ (by simp)).trans (heap_alloc_new V (dedO d))
 have hy : ((V.alloc (dedO d)).alloc (postO d.post)).heap[V.heap.size + 1]? = some (postO d.post) := by
  have h9 := heap_alloc_new (V.alloc (dedO d)) (postO d.post)
  rw [World.size_alloc] at h9
  exact h9
 have k2 : (V.alloc (dedO d)).cell? ⟨V.heap.size, 2, none⟩ = some (sV d.post.label) := cell_of_row _ _ 2 _ _ _ (heap_alloc_new V (dedO d))
 have k3 : (V.alloc (dedO d)).cell? ⟨V.heap.size, 3, none⟩ = some (iV d.post.frm) := cell_of_row _ _ 3 _ _ _ (heap_alloc_new V (dedO d))
 have k4 : (V.alloc (dedO d)).cell? ⟨V.heap.size, 4, none⟩ = some (iV d.post.dst) := cell_of_row _ _ 4 _ _ _ (heap_alloc_new V (dedO d))
 have k5 : (V.alloc (dedO d)).cell? ⟨V.heap.size, 5, none⟩ = some (iV d.post.cls) := cell_of_row _ _ 5 _ _ _ (heap_alloc_new V (dedO d))
 have k6 : (V.alloc (dedO d)).cell? ⟨V.heap.size, 6, none⟩ = some (iV d.post.acc) := cell_of_row _ _ 6 _ _ _ (heap_alloc_new V (dedO d))
 have HH := Lib.hid (H.below hb)
 have HK0 : Hid (∀ c, c < V.heap.size -> ((V.alloc (dedO d)).alloc (postO d.post)).heap[c]? = V.heap[c]? /\ c < ((V.alloc (dedO d)).alloc (postO d.post)).heap.size) := fun c hc => ⟨hb.block c hc, Nat.lt_of_lt_of_le hc hb.size⟩
 have HXY : Hid (X + 5 < V.heap.size) := H.rul.lt
 have HX := Lib.hid hx
 have HY := Lib.hid hy
 have HXX := Lib.hid hX
 have HM := Lib.hid hm
 have HL := Lib.hid hl
 have HLL := Lib.hid hL
 have HR := Lib.hid (And.intro h1 (And.intro h2 h3))
 have H4 := Lib.hid h4
 clear H hb hx hy hm hl hL h1 h2 h3 h4 hX
 go_enter Tryz.func90, Tryz.ntmps90
 go_upto_region 2 with fail
 change Code.wp _ _ _ _ ((V.alloc (dedO d)).alloc (postO d.post))
 clear k2 k3 k4 k5 k6
 generalize ((V.alloc (dedO d)).alloc (postO d.post)) = V1 at *
 generalize hYe : V.heap.size = Y at *
 have HYe := Lib.hid hYe
 clear hYe
 have q0 : V1.cell? ⟨Y + 1, 0, none⟩ = some (sV d.post.label) := cell_of_row _ _ 0 _ _ _ HY.out
 go_wp2_with fail
 refine (islabel_any d.post.label _ HL.out).mono ?_
 rintro e V2 ⟨rfl, hb⟩
 have hh := HH.out.below hb
 have hll : d.post.label.length <= 20 := by
  have := HL.out
  unfold labB at this
  simp only [Bool.and_eq_true, decide_eq_true_eq] at this
  exact this.2
 have hlk := hh.look (l := d.post.label) (by omega) false (by simp [HM.out])
 have c5 : V2.cell? ⟨X + 1 + 1, 0, none⟩ = some (.map (some (X + 1))) := cell_of_row _ _ 0 _ _ _ hh.p5
 have hx2 := (hb.block _ (block_lt HX.out)).trans HX.out
 have hy2 := (hb.block _ (block_lt HY.out)).trans HY.out
 have r0 : V2.cell? ⟨Y + 1, 0, none⟩ = some (sV d.post.label) := cell_of_row _ _ 0 _ _ _ hy2
 have r4 : V2.cell? ⟨Y + 1, 4, none⟩ = some (iV d.post.acc) := cell_of_row _ _ 4 _ _ _ hy2
 have r1 : V2.cell? ⟨Y, 1, none⟩ = some (iV d.time) := cell_of_row _ _ 1 _ _ _ hx2
 have e4 : (d.post.acc != d.time) = false := by rw [H4.out]; simp
 obtain ⟨m, hm, hmap⟩ := hh.map
 obtain ⟨W', hrun, hm', hg'⟩ := hmap.store keyS Tryz.underlying153 (key_str d.post.label (by unfold maxLen; omega)) (.bool true)
 obtain ⟨sz, hsz, hlen⟩ := hmap.len Tryz.underlying153 3
 have hs60 : ¬ (60 : Int) <= (sz : Int) := by have := HLL.out; omega
 have hXY : X + 1 ≠ Y + 1 := by have := HXY.out; omega
 have HMM := Lib.hid (And.intro hm hm')
 have HG := Lib.hid hg'
 have HK1 : Hid (∀ c, c < Y -> V2.heap[c]? = V.heap[c]? /\ c < V2.heap.size) := fun c hc => ⟨(hb.block c (HK0.out c hc).2).trans (HK0.out c hc).1, Nat.lt_of_lt_of_le (HK0.out c hc).2 hb.size⟩
 have HH2 := Lib.hid hh
 have HX2 := Lib.hid hx2
 have HY2 := Lib.hid hy2
 clear hb hh hm hmap hm' hg' hx2 hy2 q0 HH HX HY H4 hll
 have hs61 : decide ((60 : Int) <= (sz : Int)) = false := by simpa using hs60
 go_upto_region 4 with fail
 have hY' : W'.heap[Y + 1]? = some (postO d.post) := (HG.out.block _ (block_lt HY2.out) (fun e => hXY (Option.some.inj e).symm)).trans HY2.out
 have hS' : WfS w X n (L ++ [d.post.label]) W' := by
  refine ⟨HH2.out.bel.grown HG.out HH2.out.bel.size (fun x hx => by cases hx; have := HXX.out; omega), (HG.out.block _ (block_lt HH2.out.p0) (fun e => by have := Option.some.inj e; omega)).trans HH2.out.p0, (HG.out.block _ (block_lt HH2.out.p5) (fun e => by have := Option.some.inj e; omega)).trans HH2.out.p5, (HG.out.block _ (block_lt HH2.out.p6) (fun e => by have := Option.some.inj e; omega)).trans HH2.out.p6, (HG.out.block _ (block_lt HH2.out.p7) (fun e => by have := Option.some.inj e; omega)).trans HH2.out.p7, ⟨m + 1, ?_, ?_⟩, HH2.out.rul.kept (HG.out.block _ HH2.out.rul.lt (fun e => by have := Option.some.inj e; omega))⟩
  ·have := HMM.out.1
   simp
   omega
  ·have h9 := HMM.out.2
   rw [strF_upd, labF_add] at h9
   exact h9
 have HS' := Lib.hid hS'
 have b6 : W'.cell? ⟨X + 1 + 1 + 1, 0, none⟩ = some (.func (.func 88) #[] #[]) := cell_of_row _ _ 0 _ _ _ hS'.p6
 have b3 : W'.cell? ⟨X, 3, none⟩ = some (.slice n.offA n.offs.length n.offC) := cell_of_row _ _ 3 _ _ _ hS'.p0
 have b5 : W'.cell? ⟨X, 5, none⟩ = some (.slice n.clsA n.clss.length n.clsC) := cell_of_row _ _ 5 _ _ _ hS'.p0
 have g1 : W'.cell? ⟨Y + 1, 1, none⟩ = some (iV d.post.frm) := cell_of_row _ _ 1 _ _ _ hY'
 have g2 : W'.cell? ⟨Y + 1, 2, none⟩ = some (iV d.post.dst) := cell_of_row _ _ 2 _ _ _ hY'
 have g3 : W'.cell? ⟨Y + 1, 3, none⟩ = some (iV d.post.cls) := cell_of_row _ _ 3 _ _ _ hY'
 have HCI : Hid (∀ (i m : Int) (W : World), 0 <= i -> i < m -> Calls Tryz.prog 88 #[iV i, iV m] W fun e w' => e = .returned (.bool true) /\ w' = W) := fun i m W a b => index_any i m a b W
 clear hS' hY'
 go_wp2_with fail
 refine (HCI.out _ _ _ HR.out.1.1 HR.out.1.2).mono ?_
 rintro e w5 ⟨rfl, rfl⟩
 go_wp2_with fail
 refine (HCI.out _ _ _ HR.out.2.1.1 HR.out.2.1.2).mono ?_
 rintro e w5 ⟨rfl, rfl⟩
 go_wp2_with fail
 refine (HCI.out _ _ _ HR.out.2.2.1 HR.out.2.2.2).mono ?_
 rintro e w5 ⟨rfl, rfl⟩
 go_wp2_with fail
 go_ret
 exact ⟨rfl, HS'.out, fun c hc hn => (HG.out.block c (HK1.out c (HYe.out ▸ hc)).2 (fun e => hn (Option.some.inj e))).trans (HK1.out c (HYe.out ▸ hc)).1⟩
theorem rswap_any (w V : World) (X : Nat) (n : Net) (L : List (List UInt8)) (d : Ded) (H : WfS w X n L V) (hl : d.label.length <= 1000 /\ d.other.length <= 1000) (hm : d.label ∈ L) (ho : d.other ∈ L) (hne : d.label ≠ d.other) :
  Calls Tryz.prog 92 #[dedV d, .pointer (some ⟨X + 1 + 1 + 1 + 1, 0, none⟩), .pointer (some ⟨X + 1 + 1, 0, none⟩)] V fun e V' => e = .returned (.bool true) /\ WfS w X n L V' /\ Below V.heap.size V V' := by
 have hb := ba V (dedO d)
 have hx := heap_alloc_new V (dedO d)
 have H1 := H.below hb
 have c7 : (V.alloc (dedO d)).cell? ⟨X + 1 + 1 + 1 + 1, 0, none⟩ = some (.func (.func 89) #[] #[.pointer (some ⟨X + 1 + 1, 0, none⟩)]) := cell_of_row _ _ 0 _ _ _ H1.p7
 have k (i : Nat) (v : Value) (hv : (#[iV d.kind, iV d.time, sV d.post.label, iV d.post.frm, iV d.post.dst, iV d.post.cls, iV d.post.acc, sV d.label, sV d.other, iV d.line] : Array Value)[i]? = some v) : (V.alloc (dedO d)).cell? ⟨V.heap.size, i, none⟩ = some v := (cell_of_row _ _ _ _ _ _ hx).trans hv
 have k0 : (V.alloc (dedO d)).cell? ⟨V.heap.size, 0, none⟩ = some (iV d.kind) := k 0 _ rfl
 have k1 : (V.alloc (dedO d)).cell? ⟨V.heap.size, 1, none⟩ = some (iV d.time) := k 1 _ rfl
 have k2 : (V.alloc (dedO d)).cell? ⟨V.heap.size, 2, none⟩ = some (sV d.post.label) := k 2 _ rfl
 have k3 : (V.alloc (dedO d)).cell? ⟨V.heap.size, 3, none⟩ = some (iV d.post.frm) := k 3 _ rfl
 have k4 : (V.alloc (dedO d)).cell? ⟨V.heap.size, 4, none⟩ = some (iV d.post.dst) := k 4 _ rfl
 have k5 : (V.alloc (dedO d)).cell? ⟨V.heap.size, 5, none⟩ = some (iV d.post.cls) := k 5 _ rfl
 have k6 : (V.alloc (dedO d)).cell? ⟨V.heap.size, 6, none⟩ = some (iV d.post.acc) := k 6 _ rfl
 have k7 : (V.alloc (dedO d)).cell? ⟨V.heap.size, 7, none⟩ = some (sV d.label) := k 7 _ rfl
 have k8 : (V.alloc (dedO d)).cell? ⟨V.heap.size, 8, none⟩ = some (sV d.other) := k 8 _ rfl
 have k9 : (V.alloc (dedO d)).cell? ⟨V.heap.size, 9, none⟩ = some (iV d.line) := k 9 _ rfl
 have HH := Lib.hid H1
 have HX := Lib.hid hx
 have HBA := Lib.hid hb
 have HL := Lib.hid hl
 have HM := Lib.hid (And.intro hm ho)
 have HN := Lib.hid hne
 clear H H1 hb hx hl hm ho hne k
 go_enter Tryz.func92, Tryz.ntmps92
 go_wp2_with fail
 refine (named_any w _ X n L d HH.out HL.out.1 HM.out.1).mono ?_
 rintro e V2 ⟨rfl, hh, hb⟩
 have HB := Lib.hid hb
 have HH2 := Lib.hid hh
 have hx2 := (hb.block _ (block_lt HX.out)).trans HX.out
 have hlk := hh.look HL.out.2 true (by simp [HM.out.2])
 have c5 : V2.cell? ⟨X + 1 + 1, 0, none⟩ = some (.map (some (X + 1))) := cell_of_row _ _ 0 _ _ _ hh.p5
 have r7 : V2.cell? ⟨V.heap.size, 7, none⟩ = some (sV d.label) := cell_of_row _ _ 7 _ _ _ hx2
 have r8 : V2.cell? ⟨V.heap.size, 8, none⟩ = some (sV d.other) := cell_of_row _ _ 8 _ _ _ hx2
 have e9 : (d.label == d.other) = false := by simpa using HN.out
 clear hh hb hx2 c7 k0 k1 k2 k3 k4 k5 k6 k7 k8 k9
 go_wp2_with fail
 go_ret
 exact ⟨rfl, HH2.out, bt HBA.out HB.out⟩
theorem rcanc_any (w V : World) (X : Nat) (n : Net) (L : List (List UInt8)) (d : Ded) (H : WfS w X n L V) (h1 : 0 <= d.line /\ d.line < n.lins.length) :
  Calls Tryz.prog 93 #[dedV d, .pointer (some ⟨X + 1 + 1 + 1, 0, none⟩), .pointer (some ⟨X, 0, none⟩)] V fun e V' => e = .returned (.bool true) /\ WfS w X n L V' /\ Below V.heap.size V V' := by
 have hb := ba V (dedO d)
 have hx := heap_alloc_new V (dedO d)
 have H1 := H.below hb
 have b6 : (V.alloc (dedO d)).cell? ⟨X + 1 + 1 + 1, 0, none⟩ = some (.func (.func 88) #[] #[]) := cell_of_row _ _ 0 _ _ _ H1.p6
 have b4 : (V.alloc (dedO d)).cell? ⟨X, 4, none⟩ = some (.slice n.linA n.lins.length n.linC) := cell_of_row _ _ 4 _ _ _ H1.p0
 have k9 : (V.alloc (dedO d)).cell? ⟨V.heap.size, 9, none⟩ = some (iV d.line) := cell_of_row _ _ 9 _ _ _ hx
 have HH := Lib.hid H1
 have HR := Lib.hid h1
 have HBA := Lib.hid hb
 clear H H1 hb hx h1
 go_enter Tryz.func93, Tryz.ntmps93
 go_wp2_with fail
 refine (index_any _ _ HR.out.1 HR.out.2 _).mono ?_
 rintro e V2 ⟨rfl, rfl⟩
 go_wp2_with fail
 go_ret
 exact ⟨rfl, HH.out, HBA.out⟩
theorem rule_any (w V : World) (X : Nat) (n : Net) (bef : List Ded) (d : Ded) (H : WfS w X n (postedL bef) V) (hX : w.heap.size <= X) (hd : DedOk n bef d) (hL : (postedL bef).length < 60) (hp : ∀ l ∈ postedL bef, l.length <= 1000) :
  ∃ (g : FuncId) (cap : Array Value), rulF X d.kind = some (.func (.func g) #[] cap) /\ (∀ args W, (callFunc g args).run Tryz.prog W = .ok (.enter g args) W) /\
   Calls Tryz.prog g (#[dedV d] ++ cap) V fun e V' => e = .returned (.bool true) /\ WfS w X n (postedL (bef ++ [d])) V' /\ ∀ c, c < V.heap.size -> c ≠ X + 1 -> V'.heap[c]? = V.heap[c]? := by
 have hno : d.kind ≠ 1 -> postedL (bef ++ [d]) = postedL bef := fun h => by
  unfold postedL
  rw [List.filter_append]
  simp [h]
 rcases hd with ⟨hk, h1, h2, h3, h4, h5, h6⟩ | ⟨hk, h1⟩ | ⟨hk, h1, h2, h3⟩ | ⟨hk, h1, h2⟩
 ·refine ⟨_, _, by rw [hk]; rfl, fun _ _ => rfl, ?_⟩
  have e : postedL (bef ++ [d]) = postedL bef ++ [d.post.label] := by
   unfold postedL
   rw [List.filter_append]
   simp [hk]
  rw [e]
  exact rpost_any w V X n _ d H hX h1 h2 hL h3 h4 h5 h6
 ·have hl := hp _ h1
  rw [hno (by omega)]
  rcases hk with hk | hk
  ·refine ⟨_, _, by rw [hk]; rfl, fun _ _ => rfl, ?_⟩
   exact (named_any w V X n _ d H hl h1).mono (fun _ _ ⟨a, b, c⟩ => ⟨a, b, fun i hi _ => c.block i hi⟩)
  ·refine ⟨_, _, by rw [hk]; rfl, fun _ _ => rfl, ?_⟩
   exact (named_any w V X n _ d H hl h1).mono (fun _ _ ⟨a, b, c⟩ => ⟨a, b, fun i hi _ => c.block i hi⟩)
 ·rw [hno (by omega)]
  refine ⟨_, _, by rw [hk]; rfl, fun _ _ => rfl, ?_⟩
  exact (rswap_any w V X n _ d H ⟨hp _ h1, hp _ h2⟩ h1 h2 h3).mono (fun _ _ ⟨a, b, c⟩ => ⟨a, b, fun i hi _ => c.block i hi⟩)
 ·rw [hno (by omega)]
  refine ⟨_, _, by rw [hk]; rfl, fun _ _ => rfl, ?_⟩
  exact (rcanc_any w V X n _ d H ⟨h1, h2⟩).mono (fun _ _ ⟨a, b, c⟩ => ⟨a, b, fun i hi _ => c.block i hi⟩)
end
section
open Go.Maps (Keyed)
def encD (d : Ded) : List Value := [iV d.kind, iV d.time, sV d.post.label, iV d.post.frm, iV d.post.dst, iV d.post.cls, iV d.post.acc, sV d.label, sV d.other, iV d.line]
theorem encD_len (d : Ded) : (encD d).length = 10 := rfl
abbrev wfObjs (n : Net) (X : Nat) : List Obj := [netO n, .map #[] 0, .cells #[.map (some (X + 1))] 153, .cells #[.func (.func 88) #[] #[]] 121, .cells #[.func (.func 89) #[] #[.pointer (some ⟨X + 1 + 1, 0, none⟩)]] 154]
theorem deds_at {n : Net} : ∀ {ds bef : List Ded} {t : Int} {k : Nat} {d : Ded}, DedsOk n bef t ds -> ds[k]? = some d -> t <= d.time /\ d.time <= 1000000 /\ DedOk n (bef ++ ds.take k) d /\ ∀ e, ds[k + 1]? = some e -> d.time <= e.time
 | [], _, _, _, _, _, h => by simp at h
 | x :: ds, bef, t, 0, d, h, hd => by
  cases Option.some.inj hd
  refine ⟨h.1, h.2.1, by simpa using h.2.2.1, fun e he => ?_⟩
  cases ds with
  | nil => simp at he
  | cons y ds =>
   have : y = e := by simpa using he
   subst this
   exact h.2.2.2.1
 | x :: ds, bef, t, k + 1, d, h, hd => by
  obtain ⟨a1, a2, a3, a4⟩ := deds_at (k := k) h.2.2.2 (by simpa using hd)
  refine ⟨Int.le_trans h.1 a1, a2, ?_, fun e he => a4 e (by simpa using he)⟩
  have e : bef ++ (x :: ds).take (k + 1) = bef ++ [x] ++ ds.take k := by simp
  rw [e]
  exact a3
theorem posted_len {n : Net} {ds : List Ded} (h : DedsOk n [] 0 ds) (k : Nat) : ∀ l ∈ postedL (ds.take k), l.length <= 1000 := fun l hl => by
 unfold postedL at hl
 obtain ⟨d, hd, rfl⟩ := List.mem_map.1 hl
 obtain ⟨hd1, hd2⟩ := List.mem_filter.1 hd
 have hk : d.kind = 1 := by simpa using hd2
 obtain ⟨i, hi⟩ := List.getElem?_of_mem (List.mem_of_mem_take hd1)
 obtain ⟨-, -, h3, -⟩ := deds_at h hi
 rcases h3 with ⟨-, h4, -⟩ | ⟨h4, -⟩ | ⟨h4, -⟩ | ⟨h4, -⟩
 ·unfold labB at h4
  simp only [Bool.and_eq_true, decide_eq_true_eq] at h4
  omega
 ·omega
 ·omega
 ·omega
theorem posted_few (ds : List Ded) (k : Nat) : (postedL (ds.take k)).length <= ds.length := by
 unfold postedL
 rw [List.length_map]
 exact Nat.le_trans (List.length_filter_le _ _) (by simp; omega)
theorem wellformed_any (n : Net) (DA : Option Addr) (DC : Nat) (ds : List Ded) (w : World) (hds : Rd w DA (ds.flatMap encD)) (hd : DedsOk n [] 0 ds) (hl : ds.length <= 50) :
  Calls Tryz.prog 40 #[netV n, .slice DA ds.length DC] w fun e w' => e = .returned (.bool true) /\ Below w.heap.size w w' := by
 have hmf : ∀ (fn : Fn) (first cap : Array Value) (w : World), (Instr.makeFunc fn first cap).run Tryz.prog w = .ok (.func fn first cap) w := fun _ _ _ _ => rfl
 have hmm := run_makeMap
 have e0 : ¬ (120 : Int) < (ds.length : Int) := by omega
 go_enter Tryz.func40, Tryz.ntmps40
 go_upto_region 6 with fail
 clear hmm
 have hb5 := allocs_below (wfObjs n w.heap.size) w
 have hg5 := allocs_get (wfObjs n w.heap.size) w
 have hz5 : (allocs w (wfObjs n w.heap.size)).heap.size = w.heap.size + 1 + 1 + 1 + 1 + 1 := allocs_size (wfObjs n w.heap.size) w
 have q0 : (allocs w (wfObjs n w.heap.size)).heap[w.heap.size]? = some (netO n) := hg5 0 _ rfl
 have q1 : (allocs w (wfObjs n w.heap.size)).heap[w.heap.size + 1]? = some (.map #[] 0) := hg5 1 _ rfl
 have q2 : (allocs w (wfObjs n w.heap.size)).heap[w.heap.size + 1 + 1]? = some (.cells #[.map (some (w.heap.size + 1))] 153 (0, 0)) := hg5 2 _ rfl
 have q3 : (allocs w (wfObjs n w.heap.size)).heap[w.heap.size + 1 + 1 + 1]? = some (.cells #[.func (.func 88) #[] #[]] 121 (0, 0)) := hg5 3 _ rfl
 have q4 : (allocs w (wfObjs n w.heap.size)).heap[w.heap.size + 1 + 1 + 1 + 1]? = some (.cells #[.func (.func 89) #[] #[.pointer (some ⟨w.heap.size + 1 + 1, 0, none⟩)]] 154 (0, 0)) := hg5 4 _ rfl
 change Code.wp _ _ _ _ (allocs w (wfObjs n w.heap.size))
 generalize allocs w (wfObjs n w.heap.size) = V5 at *
 obtain ⟨X, hX⟩ : ∃ X, w.heap.size = X := ⟨_, rfl⟩
 have HXW := Lib.hid hX
 have HB5 := Lib.hid hb5
 rw [hX] at q0 q1 q2 q3 q4 hz5 ⊢
 have hm0 : MapV Tryz.prog 9 V5 (X + 1) 0 (fun _ => none) := ⟨#[], 0, q1, Nat.le_refl _, by simp, by simp, fun _ _ h => (by cases h), by simp⟩
 have HM1 : Hid (MapV Tryz.prog 9 V5 (X + 1) 0 (strF (labF []))) := hm0.eq (by
  rw [strF_nil]
  congr 1)
 clear hm0
 clear hX hg5 hb5
 obtain ⟨U1, r1, m1, g1⟩ := (MapV.new V5 Tryz.prog 3).store keyI Tryz.underlying155 (key_int 1 (I64s (by decide) (by decide))) (.func (.func 90) #[] #[.pointer (some ⟨X + 1 + 1, 0, none⟩), .pointer (some ⟨X + 1 + 1 + 1, 0, none⟩), .pointer (some ⟨X, 0, none⟩)])
 obtain ⟨U2, r2, m2, g2⟩ := m1.store keyI Tryz.underlying155 (key_int 2 (I64s (by decide) (by decide))) (.func (.func 89) #[] #[.pointer (some ⟨X + 1 + 1, 0, none⟩)])
 obtain ⟨U3, r3, m3, g3⟩ := m2.store keyI Tryz.underlying155 (key_int 3 (I64s (by decide) (by decide))) (.func (.func 89) #[] #[.pointer (some ⟨X + 1 + 1, 0, none⟩)])
 obtain ⟨U4, r4, m4, g4⟩ := m3.store keyI Tryz.underlying155 (key_int 4 (I64s (by decide) (by decide))) (.func (.func 92) #[] #[.pointer (some ⟨X + 1 + 1 + 1 + 1, 0, none⟩), .pointer (some ⟨X + 1 + 1, 0, none⟩)])
 obtain ⟨U5, r5, m5, g5⟩ := m4.store keyI Tryz.underlying155 (key_int 5 (I64s (by decide) (by decide))) (.func (.func 93) #[] #[.pointer (some ⟨X + 1 + 1 + 1, 0, none⟩), .pointer (some ⟨X, 0, none⟩)])
 have hmk : (Instr.makeMap 155 none).run Tryz.prog V5 = .ok (.map (some (X + 1 + 1 + 1 + 1 + 1))) (V5.alloc (.map #[] 0)) := by rw [<- hz5]; exact run_makeMap _ _
 rw [hz5] at r1 m1 g1 r2 m2 g2 r3 m3 g3 r4 m4 g4 r5 m5 g5
 have up : ∀ {a b : World}, Below V5.heap.size V5 a -> a.grownBy b (some (X + 1 + 1 + 1 + 1 + 1)) -> Below V5.heap.size V5 b := fun h g => h.grown g h.size (fun x hx => by cases hx; omega)
 have b1 := up (ba V5 _) g1
 have b2 := up b1 g2
 have b5 := up (up (up b2 g3) g4) g5
 have HWF : Hid (WfS w X n [] U5) := by
  refine ⟨HB5.out.trans (b5.mono HB5.out.size), (b5.block _ (block_lt q0)).trans q0, (b5.block _ (block_lt q2)).trans q2, (b5.block _ (block_lt q3)).trans q3, (b5.block _ (block_lt q4)).trans q4, ⟨0, Nat.le_refl _, HM1.out.below b5⟩, m5.eq ?_⟩
  rw [intF_nil, intF_upd, intF_upd, intF_upd, intF_upd, intF_upd]
  congr 1
  funext k
  unfold rulF
  by_cases h1 : k = 1
  ·subst h1; rfl
  by_cases h2 : k = 2
  ·subst h2; rfl
  by_cases h3 : k = 3
  ·subst h3; rfl
  by_cases h4 : k = 4
  ·subst h4; rfl
  by_cases h5 : k = 5
  ·subst h5; rfl
  simp [h1, h2, h3, h4, h5]
 have c1 : U1.cell? ⟨X + 1 + 1 + 1 + 1, 0, none⟩ = some (.func (.func 89) #[] #[.pointer (some ⟨X + 1 + 1, 0, none⟩)]) := cell_of_row _ _ 0 _ _ _ ((b1.block _ (block_lt q4)).trans q4)
 have c2 : U2.cell? ⟨X + 1 + 1 + 1 + 1, 0, none⟩ = some (.func (.func 89) #[] #[.pointer (some ⟨X + 1 + 1, 0, none⟩)]) := cell_of_row _ _ 0 _ _ _ ((b2.block _ (block_lt q4)).trans q4)
 have HDS := Lib.hid hds
 have HD := Lib.hid hd
 have HL := Lib.hid hl
 clear up b1 b2 b5 m1 m2 m3 m4 m5 g1 g2 g3 g4 g5 q0 q1 q2 q3 q4 hz5 hds hd hl
 go_wp2_with fail
 go_loopw [9, 11, 12, 13, 28] (fun last _ _ _ i wr => ∃ (k : Nat) (T : Int), k <= ds.length /\ last = iV T /\ i = iV k /\ Hid (∀ d, ds[k]? = some d -> T <= d.time) /\ Hid (WfS w X n (postedL (ds.take k)) wr)) (fun _ _ _ _ i _ => ds.length + 1 - (intOf i).toNat)
 case atStart => exact ⟨0, 0, Nat.zero_le _, rfl, rfl, Lib.hid (fun d hd => (deds_at HD.out hd).1), HWF⟩
 case round =>
 obtain ⟨k, T, hk, rfl, rfl, HT, HW⟩ := hrel
 clear c1 c2 r1 r2 r3 r4 r5 hmk hmf e0
 have j0 : (0 : Int) <= (k : Int) := by omega
 by_cases hlt : k < ds.length
 case neg =>
  have j1 : ¬ (k : Int) < (ds.length : Int) := by omega
  go_wp2_with fail
  go_ret
  exact ⟨rfl, HW.out.bel⟩
 have j1 : (k : Int) < (ds.length : Int) := by omega
 have HLT := Lib.hid hlt
 obtain ⟨d, hd⟩ : ∃ d, ds[k]? = some d := ⟨_, List.getElem?_eq_getElem hlt⟩
 obtain ⟨d1, d2, d3, d4⟩ := deds_at HD.out hd
 have hT := HT.out d hd
 obtain ⟨-, db, dof, hDA, -, y0, yj⟩ := elem_at encD_len (HDS.out.below HW.out.bel) hd (by omega)
 have z0 : wr.cell? ⟨db, dof + k * 10, none⟩ = some (iV d.kind) := y0 _ rfl
 have z1 : wr.cell? ⟨db, dof + k * 10 + 1, none⟩ = some (iV d.time) := yj 1 _ rfl
 have z2 : wr.cell? ⟨db, dof + k * 10 + 2, none⟩ = some (sV d.post.label) := yj 2 _ rfl
 have z3 : wr.cell? ⟨db, dof + k * 10 + 3, none⟩ = some (iV d.post.frm) := yj 3 _ rfl
 have z4 : wr.cell? ⟨db, dof + k * 10 + 4, none⟩ = some (iV d.post.dst) := yj 4 _ rfl
 have z5 : wr.cell? ⟨db, dof + k * 10 + 5, none⟩ = some (iV d.post.cls) := yj 5 _ rfl
 have z6 : wr.cell? ⟨db, dof + k * 10 + 6, none⟩ = some (iV d.post.acc) := yj 6 _ rfl
 have z7 : wr.cell? ⟨db, dof + k * 10 + 7, none⟩ = some (sV d.label) := yj 7 _ rfl
 have z8 : wr.cell? ⟨db, dof + k * 10 + 8, none⟩ = some (sV d.other) := yj 8 _ rfl
 have z9 : wr.cell? ⟨db, dof + k * 10 + 9, none⟩ = some (iV d.line) := yj 9 _ rfl
 have HDE := Lib.hid hd
 have HD3 := Lib.hid (And.intro d1 (And.intro d2 (And.intro d3 d4)))
 have HTT := Lib.hid hT
 clear y0 yj d1 d2 d3 d4 hlt hk hd hT
 rw [hDA]
 clear hDA
 go_upto_region 11 with fail
 have hx := heap_alloc_new wr (dedO d)
 have HA := HW.out.below (ba wr (dedO d))
 have hz : (zeroValue 154).run Tryz.prog (wr.alloc (dedO d)) = .ok .nilFunc (wr.alloc (dedO d)) := by kernel_rfl
 have hkr : I64 d.kind := by
  rcases HD3.out.2.2.1 with ⟨h, -⟩ | ⟨h, -⟩ | ⟨h, -⟩ | ⟨h, -⟩
  ·rw [h]; exact I64s (by decide) (by decide)
  ·rcases h with h | h <;> (rw [h]; exact I64s (by decide) (by decide))
  ·rw [h]; exact I64s (by decide) (by decide)
  ·rw [h]; exact I64s (by decide) (by decide)
 have hfew := posted_few ds k
 obtain ⟨g, cap, hg, hcf, hcall⟩ := rule_any w _ X n (ds.take k) d HA (by have := HXW.out; omega) (by simpa using HD3.out.2.2.1) (by have := HL.out; omega) (posted_len HD.out k)
 have hlk := HA.rul.look keyI Tryz.underlying155 hz (key_int d.kind hkr) true
 have hat : intF (rulF X) (iV d.kind) = some (.func (.func g) #[] cap) := hg
 rw [hat] at hlk
 have hlk2 : (Instr.lookup 155 (.map (some (X + 1 + 1 + 1 + 1 + 1))) (iV d.kind) true).run Tryz.prog (wr.alloc (dedO d)) = .ok (.tuple #[.func (.func g) #[] cap, .bool true]) (wr.alloc (dedO d)) := by simpa using hlk
 have kk (i : Nat) (v : Value) (hv : (#[iV d.kind, iV d.time, sV d.post.label, iV d.post.frm, iV d.post.dst, iV d.post.cls, iV d.post.acc, sV d.label, sV d.other, iV d.line] : Array Value)[i]? = some v) : (wr.alloc (dedO d)).cell? ⟨wr.heap.size, i, none⟩ = some v := (cell_of_row _ _ _ _ _ _ hx).trans hv
 have k0 : (wr.alloc (dedO d)).cell? ⟨wr.heap.size, 0, none⟩ = some (iV d.kind) := kk 0 _ rfl
 have k1 : (wr.alloc (dedO d)).cell? ⟨wr.heap.size, 1, none⟩ = some (iV d.time) := kk 1 _ rfl
 have k2 : (wr.alloc (dedO d)).cell? ⟨wr.heap.size, 2, none⟩ = some (sV d.post.label) := kk 2 _ rfl
 have k3 : (wr.alloc (dedO d)).cell? ⟨wr.heap.size, 3, none⟩ = some (iV d.post.frm) := kk 3 _ rfl
 have k4 : (wr.alloc (dedO d)).cell? ⟨wr.heap.size, 4, none⟩ = some (iV d.post.dst) := kk 4 _ rfl
 have k5 : (wr.alloc (dedO d)).cell? ⟨wr.heap.size, 5, none⟩ = some (iV d.post.cls) := kk 5 _ rfl
 have k6 : (wr.alloc (dedO d)).cell? ⟨wr.heap.size, 6, none⟩ = some (iV d.post.acc) := kk 6 _ rfl
 have k7 : (wr.alloc (dedO d)).cell? ⟨wr.heap.size, 7, none⟩ = some (sV d.label) := kk 7 _ rfl
 have k8 : (wr.alloc (dedO d)).cell? ⟨wr.heap.size, 8, none⟩ = some (sV d.other) := kk 8 _ rfl
 have k9 : (wr.alloc (dedO d)).cell? ⟨wr.heap.size, 9, none⟩ = some (iV d.line) := kk 9 _ rfl
 have HA' := Lib.hid HA
 have HC := Lib.hid hcall
 have f1 : decide (d.time < T) = false := by have := HTT.out; simpa using this
 have f2 : decide ((1000000 : Int) < d.time) = false := by have := HD3.out.2.1; simpa using this
 clear kk z0 z1 z2 z3 z4 z5 z6 z7 z8 z9 hlk hat hz hkr hfew hg HA hcall
 change Code.wp _ _ _ _ (wr.alloc (dedO d))
 obtain ⟨x, hxd⟩ : ∃ x, wr.heap.size = x := ⟨_, rfl⟩
 rw [hxd] at k0 k1 k2 k3 k4 k5 k6 k7 k8 k9 hx ⊢
 generalize (wr.alloc (dedO d)) = V1 at *
 go_wp2_with fail
 refine HC.out.mono ?_
 rintro e V2 ⟨rfl, hW2, hkeep⟩
 have hx2 : V2.heap[x]? = some (dedO d) := (hkeep x (block_lt hx) (by have := HXW.out; have := HW.out.rul.lt; omega)).trans hx
 have k1' : V2.cell? ⟨x, 1, none⟩ = some (iV d.time) := cell_of_row _ _ 1 _ _ _ hx2
 have HW2 := Lib.hid hW2
 clear hkeep hx2 k0 k1 k2 k3 k4 k5 k6 k7 k8 k9 hW2 hx
 go_wp2_with fail
 have e7 : wrap64 ((k : Int) + 1) = ((k + 1 : Nat) : Int) := by
  have := HL.out
  have := HLT.out
  unfold wrap64
  omega
 rw [e7]
 have e8 : ds.take (k + 1) = ds.take k ++ [d] := by
  rw [List.take_add_one, HDE.out]; rfl
 refine ⟨⟨k + 1, d.time, HLT.out, rfl, rfl, Lib.hid (HD3.out.2.2.2), ?_⟩, ?_⟩
 ·rw [e8]
  exact HW2
 ·have := HLT.out
  show ds.length + 1 - (((k + 1 : Nat) : Int)).toNat < ds.length + 1 - ((k : Int)).toNat
  omega
end
end Go.Proofs.YtpeaiphdkgifaaaGreatDoor
