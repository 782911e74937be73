/-
  The walk over the law WorldDeeds.
-/
import Derived.Test.YtpeaiphdkgifaaaGreatDoorWxWDeeds
namespace Go.Proofs.YtpeaiphdkgifaaaGreatDoor
open Go.RowKit
set_option maxHeartbeats 20000000
set_option maxRecDepth 100000
section
attribute [local go_sem] Oper.semAt_some
theorem deds_len : ∀ ds : List Ded, (ds.flatMap encD).length = ds.length * 10
 | [] => rfl
 | d :: ds => by
  rw [List.flatMap_cons, List.length_append, deds_len ds, List.length_cons, encD_len d]
  omega
theorem dedInfD : (Tryz.prog.info? 44).map (fun i => (i.zero, i.size, i.bytes)) = some (some (.agg #[iV 0, iV 0, .string ⟨#[]⟩, iV 0, iV 0, iV 0, iV 0, .string ⟨#[]⟩, .string ⟨#[]⟩, iV 0]), 10, 104) := by kernel_rfl
theorem deds_last {n : Net} : ∀ {ds bef : List Ded} {t : Int}, DedsOk n bef t ds -> ∀ (d : Ded), ds.getLast? = some d -> t <= d.time /\ d.time <= 1000000 /\ ∀ e ∈ ds, e.time <= d.time
 | [], _, _, _, d, h => by simp at h
 | [a], _, _, h, d, hd => by
  simp at hd
  subst hd
  exact ⟨h.1, h.2.1, fun e he => by rw [List.mem_singleton.1 he]; exact Int.le_refl _⟩
 | a :: b :: l, _, _, h, d, hd => by
  have h9 := deds_last h.2.2.2 d (by simpa using hd)
  refine ⟨Int.le_trans h.1 h9.1, h9.2.1, fun e he => ?_⟩
  rcases List.mem_cons.1 he with rfl | he
  ·exact h9.1
  ·exact h9.2.2 e he
structure LatI (T : Int) (items : List Itm) (k : Nat) (cur : List St) (m : Nat) (L : Int) : Prop where
 lo : T <= L
 hi : L <= 3000000
 all : ∀ (j : Nat) (it : Itm), j < k -> items[j]? = some it -> ∀ s ∈ it.stops.dropLast, s.depart < L
 cur : ∀ (j : Nat) (s : St), j < m -> cur[j]? = some s -> s.depart < L
theorem LatI.max_ {T : Int} {items : List Itm} {k : Nat} {cur : List St} {m : Nat} {L : Int} {s : St} (h : LatI T items k cur m L) (hs : cur[m]? = some s) {M : Int} (h1 : L <= M) (h2 : s.depart + 1 <= M) (h3 : M <= 3000000) : LatI T items k cur (m + 1) M :=
 ⟨Int.le_trans h.lo h1, h3, fun j it hj hi x hx => by have := h.all j it hj hi x hx; omega, fun j x hj hx => by
  by_cases hjm : j < m
  ·have := h.cur j x hjm hx
   omega
  ·obtain rfl : j = m := by omega
   rw [hs] at hx
   cases hx
   omega⟩
theorem LatI.next {T : Int} {items : List Itm} {k : Nat} {it : Itm} {m : Nat} {L : Int} (h : LatI T items k it.stops m L) (hi : items[k]? = some it) (hm : it.stops.length <= m + 1) : LatI T items (k + 1) [] 0 L :=
 ⟨h.lo, h.hi, fun j x hj hx s hs => by
  by_cases hjk : j < k
  ·exact h.all j x hjk hx s hs
  ·obtain rfl : j = k := by omega
   rw [hi] at hx
   cases hx
   obtain ⟨i, hi2⟩ := List.getElem?_of_mem hs
   have hlt := (List.getElem?_eq_some_iff.1 hi2).1
   rw [List.length_dropLast] at hlt
   exact h.cur i s (by omega) (by rw [<- hi2, List.getElem?_dropLast, if_pos (by omega)]), fun _ _ hj => absurd hj (Nat.not_lt_zero _)⟩
theorem LatI.start {T : Int} {items : List Itm} {k : Nat} {cur cur' : List St} {L : Int} (h : LatI T items k cur 0 L) : LatI T items k cur' 0 L := ⟨h.lo, h.hi, h.all, fun _ _ hj => absurd hj (Nat.not_lt_zero _)⟩
theorem path_dep {n : Net} : ∀ {l : List St} {es : List (List UInt8)}, PathOk n l es -> ∀ s ∈ l, -1 <= s.depart /\ s.depart <= 2090000
 | [s], [], h, x, hx => by
  obtain rfl := List.mem_singleton.1 hx
  rw [h.1]
  omega
 | a :: b :: l, e :: es, h, x, hx => by
  rcases List.mem_cons.1 hx with rfl | hx
  ·have := h.1.dep
   omega
  ·exact path_dep h.2 x hx
abbrev holdD (t : Int) (l : List UInt8) : Ded := ⟨3, t, ⟨[], 0, 0, 0, 0⟩, l, [], 0⟩
theorem wdeeds_any (n : Net) (fr till : Int) (nx : List NsC) (nxA : Option Addr) (nxC : Nat) (D : Option Addr) (dl dc : Nat) (DA : Option Addr) (DC : Nat) (ds : List Ded) (z : Nat) (w : World) (h : LawIn w n nx nxA DA DC ds) (hz : z <= 255) :
  Calls Tryz.prog 5 #[netV n, planV fr till nxA nx.length nxC D dl dc, .slice DA ds.length DC, u8V z] w fun e w' => e = .returned (.bool true) /\ Below w.heap.size w w' := by
 have HIN := Lib.hid h
 have HL := Lib.hid (LwW.start (fr := fr) (till := till) (nxC := nxC) (D := D) (dl := dl) (dc := dc) h)
 clear h
 go_enter Tryz.func5, Tryz.ntmps5
 go_upto_region 1 with fail
 change Code.wp _ _ _ _ (allocs w (runObjs n fr till nxA nx.length nxC D dl dc))
 generalize allocs w (runObjs n fr till nxA nx.length nxC D dl dc) = V1 at HL ⊢
 generalize hN : w.heap.size = N at HL ⊢
 rw [<- hN] at HL
 have HL : Hid (LwW w n fr till nx nxA nxC D dl dc DA ds N (N + 1) V1) := by have h9 := HL.out; rw [hN] at h9; exact h9
 generalize hP : N + 1 = P at HL ⊢
 clear hN hP
 go_wp2_with fail
 refine (headW_any V1 HL.out.kw HL.out.pw).mono ?_
 rintro e V2 ⟨rfl, hb⟩
 replace HL := Lib.hid (HL.out.below hb)
 clear hb
 obtain ⟨⟨n0, n1, n2, n3, n4, n5⟩, p0, p1, p2, p3⟩ := HL.out.cells
 go_wp2_with fail
 have hcall := HL.out.fine (DC := DC) (fr := fr) (till := till) HIN.out
 have HCALL := Lib.hid hcall
 clear hcall
 with_reducible refine HCALL.out.mono ?_
 rintro e V3 ⟨⟨b, rfl, hf⟩, hb⟩
 clear HCALL
 clear n0 n1 n2 n3 n4 n5 p0 p1 p2 p3
 replace HL := Lib.hid (HL.out.below hb)
 clear hb
 have HFF := Lib.hid hf
 clear hf
 cases b
 case false =>
  go_wp2_with fail
  go_ret
  exact ⟨rfl, HL.out.bel⟩
 have HF := Lib.hid (HFF.out rfl)
 clear HFF
 by_cases g15 : 15 < ds.length
 case pos =>
  have g15' : (15 : Int) < (ds.length : Int) := by omega
  clear g15
  go_wp2_with fail
  go_ret
  exact ⟨rfl, HL.out.bel⟩
 have g15' : ¬ (15 : Int) < (ds.length : Int) := by omega
 have H15 : Hid (ds.length <= 15) := by show _ <= _; omega
 clear g15
 obtain ⟨⟨n0, n1, n2, n3, n4, n5⟩, p0, p1, p2, p3⟩ := HL.out.cells
 go_wp2_with fail
 have hcall := HL.out.run HF.out.sound HF.out.form HF.out.six (ds' := ds) rfl HF.out.ok (by have := HF.out.deds; omega) DA DC HL.out.rd
 have HCALL := Lib.hid hcall
 clear hcall
 with_reducible refine HCALL.out.mono ?_
 rintro e V4 ⟨hb, hR⟩
 clear HCALL
 clear n0 n1 n2 n3 n4 n5 p0 p1 p2 p3
 replace HL := Lib.hid (HL.out.below hb)
 clear hb
 rcases hR with ⟨hr, rfl⟩ | ⟨h, ts, A, c, hr, hts, rfl, hT⟩
 case inl =>
  clear hr
  go_wp2_with fail
  go_ret
  exact ⟨rfl, HL.out.bel⟩
 have HR := Lib.hid hr
 have HTS := Lib.hid hts
 have HT := Lib.hid hT
 have hl16 : ts.length <= 16 := by rw [hts.len]; exact HF.out.few16 hr
 have hd16 : ds.length <= 16 := HF.out.deds
 clear hr hts hT
 by_cases g0 : ts.length = 0
 case pos =>
  have e0 : ((ts.length : Int) == 0) = true := by simp [g0]
  clear g0
  go_wp2_with fail
  go_ret
  exact ⟨rfl, HL.out.bel⟩
 have e0 : ((ts.length : Int) == 0) = false := by rw [beq_eq_false_iff_ne]; omega
 have HTP : Hid (0 < ts.length) := by show 0 < ts.length; omega
 clear g0
 by_cases gd : ds.length = 0
 case pos =>
  have ed : ((ds.length : Int) == 0) = true := by simp [gd]
  clear gd
  go_wp2_with fail
  go_ret
  exact ⟨rfl, HL.out.bel⟩
 have ed : ((ds.length : Int) == 0) = false := by rw [beq_eq_false_iff_ne]; omega
 obtain ⟨p, hp⟩ : ∃ p : Nat, (ds.length : Int) - 1 = (p : Int) := ⟨ds.length - 1, by omega⟩
 obtain ⟨dl_, hdl⟩ : ∃ d, ds.getLast? = some d := by
  cases hx : ds.getLast? with
  | none => rw [List.getLast?_eq_none_iff] at hx; rw [hx] at gd; simp at gd
  | some d => exact ⟨d, rfl⟩
 have hdp : ds[p]? = some dl_ := by rw [List.getLast?_eq_getElem?] at hdl; rw [<- hdl]; congr 1; omega
 obtain ⟨-, db, dof, hDA, -, -, yj⟩ := elem_at encD_len HL.out.rd hdp (by omega)
 have z1 : V4.cell? ⟨db, dof + p * 10 + 1, none⟩ = some (iV dl_.time) := yj 1 _ rfl
 have HDL := Lib.hid (deds_last HF.out.ok dl_ hdl)
 have HDA := Lib.hid hDA
 have HDP : Hid (0 < ds.length) := by show 0 < _; omega
 have p0 : (0 : Int) <= (p : Int) := by omega
 have p1 : (p : Int) < (ds.length : Int) := by omega
 have hwp : wrap64 (p : Int) = (p : Int) := by unfold wrap64; omega
 have HLA0 : Hid (LatI dl_.time h.items 0 [] 0 dl_.time) := ⟨Int.le_refl _, by have := HDL.out.2.1; omega, fun j it hj => absurd hj (Nat.not_lt_zero _), fun j s hj => absurd hj (Nat.not_lt_zero _)⟩
 rw [hDA]
 clear yj hdl hdp hDA gd
 go_upto_region 8 with fail
 clear z1 p0 p1 hwp hp ed e0 g15'
 go_wp2_with fail
 go_loopw [12, 13, 14, 15, 16, 17] (fun la i _ _ _ _ wr => ∃ (k : Nat) (L : Int), k <= ts.length /\ i = iV k /\ la = iV L /\ Hid (LatI dl_.time h.items k [] 0 L) /\ Hid (Below V4.heap.size V4 wr)) (fun _ i _ _ _ _ _ => ts.length + 1 - (intOf i).toNat)
 case atStart => exact ⟨0, dl_.time, Nat.zero_le _, rfl, rfl, HLA0, Lib.hid (Below.refl _ _)⟩
 case round =>
 obtain ⟨k, L, hk, rfl, rfl, HLI, HBW⟩ := hrel
 clear HLA0
 have k0 : (0 : Int) <= (k : Int) := by omega
 by_cases hlt : k < ts.length
 case pos =>
  have HLT := Lib.hid hlt
  have k1 : (k : Int) < (ts.length : Int) := by omega
  obtain ⟨it, a, ht, hit⟩ := HTS.out.get hlt
  obtain ⟨tb, to_, hA, hc⟩ := HT.out.atI ht
  have HC := Lib.hid hc
  have HI := Lib.hid (HF.out.item HR.out (List.mem_of_getElem? hit) a)
  have HTI := Lib.hid (And.intro (HT.out.tr _ (List.mem_of_getElem? ht)) hit)
  have HLO := Lib.hid (loss_end HF.out.sound.1.good HF.out.form HR.out HF.out.ok it (List.mem_of_getElem? hit))
  have hst20 : it.stops.length <= 20 := HI.out.ok.len
  have HAE := Lib.hid hA
  clear hc ht hit hlt
  rw [hA]
  clear hA
  go_wp2_with fail
  go_loopw [12, 14, 15, 16, 17] (fun la i _ _ _ wr => ∃ (m : Nat) (L : Int), m + 1 <= it.stops.length /\ i = iV m /\ la = iV L /\ Hid (LatI dl_.time h.items k it.stops m L) /\ Hid (Below V4.heap.size V4 wr)) (fun _ i _ _ _ _ => it.stops.length + 1 - (intOf i).toNat)
  case atStart => exact ⟨0, L, List.length_pos_iff.2 (path_ne HI.out.ok.path), rfl, rfl, Lib.hid HLI.out.start, HBW⟩
  case round =>
  obtain ⟨m, L, hm, rfl, rfl, HLI, HBW⟩ := hrel
  have m0 : (0 : Int) <= (m : Int) := by omega
  have em : IntKind.i64.wrap ((m : Int) + 1) = (m : Int) + 1 := IntWalk.i64_in _ (by omega)
  have x5 := (HC.out wr HBW.out).2.1
  by_cases hmt : m + 1 < it.stops.length
  case neg =>
   have m1 : ¬ (m : Int) + 1 < (it.stops.length : Int) := by omega
   go_wp2_with fail
   go_roundw
   case rel => exact ⟨k + 1, L, HLT.out, by go_num, rfl, Lib.hid (HLI.out.next HTI.out.2 (by omega)), HBW⟩
   case measure => have := HLT.out; simp [intOf]; omega
  have m1 : (m : Int) + 1 < (it.stops.length : Int) := by omega
  have m2 : (m : Int) < (it.stops.length : Int) := by omega
  have HMT := Lib.hid hmt
  obtain ⟨s, hs⟩ : ∃ s, it.stops[m]? = some s := ⟨_, List.getElem?_eq_getElem (by omega)⟩
  obtain ⟨-, sb, so, hsA, -, y0, yj⟩ := elem_at encSt_len (HTI.out.1.st.below HBW.out) hs (by omega)
  cases hsA
  rw [Nat.zero_add] at y0
  have s0 : wr.cell? ⟨a.sB, m * 4, none⟩ = some (iV s.office) := y0 _ rfl
  have s1 : wr.cell? ⟨a.sB, m * 4 + 1, none⟩ = some (iV s.arrive) := by have := yj 1 _ rfl; rwa [Nat.zero_add] at this
  have s2 : wr.cell? ⟨a.sB, m * 4 + 2, none⟩ = some (iV s.depart) := by have := yj 2 _ rfl; rwa [Nat.zero_add] at this
  have s3 : wr.cell? ⟨a.sB, m * 4 + 3, none⟩ = some (iV s.line) := by have := yj 3 _ rfl; rwa [Nat.zero_add] at this
  have hsd : -1 <= s.depart /\ s.depart <= 2090000 := path_dep HI.out.ok.path s (List.mem_of_getElem? hs)
  have HSM : Hid (it.stops[m]? = some s /\ s ∈ it.stops.dropLast) := ⟨hs, List.mem_of_getElem? (i := m) (by rw [List.getElem?_dropLast, if_pos (by omega)]; exact hs)⟩
  clear y0 yj hs hmt
  go_upto_region 15 with fail
  clear s0 s1 s2 s3 x5 em
  have hb := ba wr (.cells #[iV s.office, iV s.arrive, iV s.depart, iV s.line] 50)
  have hg := heap_alloc_new wr (.cells #[iV s.office, iV s.arrive, iV s.depart, iV s.line] 50)
  replace HBW : Hid (Below V4.heap.size V4 (wr.alloc (.cells #[iV s.office, iV s.arrive, iV s.depart, iV s.line] 50))) := HBW.out.trans (hb.mono HBW.out.size)
  change Code.wp _ _ _ _ (wr.alloc (.cells #[iV s.office, iV s.arrive, iV s.depart, iV s.line] 50))
  generalize (wr.alloc (.cells #[iV s.office, iV s.arrive, iV s.depart, iV s.line] 50)) = V5 at *
  generalize wr.heap.size = Y at *
  have HY := Lib.hid hg
  have u2 : V5.cell? ⟨Y, 2, none⟩ = some (iV s.depart) := cell_of_row _ _ 2 _ _ _ hg
  have l1 := HLI.out.hi
  have l2 : 0 <= L := by have := HLI.out.lo; have := HDL.out.1; omega
  clear hb hg
  go_upto_region 16 with fail
  clear u2
  have HLM : Hid (LatI dl_.time h.items k it.stops (m + 1) (max L (s.depart + 1))) := HLI.out.max_ HSM.out.1 (Int.le_max_left ..) (Int.le_max_right ..) (by omega)
  generalize hM : max L (s.depart + 1) = M at HLM ⊢
  clear hM l1 l2
  go_wp2_with fail
  go_loopw [16, 17] (fun i _ wr => ∃ q : Nat, q <= ds.length /\ i = iV q /\ Hid (Below V5.heap.size V5 wr)) (fun i _ _ => ds.length + 1 - (intOf i).toNat)
  case atStart => exact ⟨0, Nat.zero_le _, rfl, Lib.hid (Below.refl _ _)⟩
  case round =>
  obtain ⟨q, hq, rfl, HBQ⟩ := hrel
  have q0 : (0 : Int) <= (q : Int) := by omega
  by_cases hqt : q < ds.length
  case neg =>
   have q1 : ¬ (q : Int) < (ds.length : Int) := by omega
   go_wp2_with fail
   have HBN : Hid (Below V4.heap.size V4 wr) := HBW.out.trans (HBQ.out.mono HBW.out.size)
   go_roundw
   case rel => exact ⟨m + 1, M, by have := HMT.out; omega, by go_num, rfl, HLM, HBN⟩
   case measure => have := HMT.out; simp [intOf]; omega
  have HQT := Lib.hid hqt
  have q1 : (q : Int) < (ds.length : Int) := by omega
  obtain ⟨d, hd⟩ : ∃ d, ds[q]? = some d := ⟨_, List.getElem?_eq_getElem hqt⟩
  obtain ⟨-, db2, dof2, hDA2, -, y0, yj⟩ := elem_at encD_len (HL.out.rd.below (HBW.out.trans (HBQ.out.mono HBW.out.size))) hd (by omega)
  rw [HDA.out] at hDA2
  cases hDA2
  have z0 : wr.cell? ⟨db, dof + q * 10, none⟩ = some (iV d.kind) := y0 _ rfl
  have z1 : wr.cell? ⟨db, dof + q * 10 + 1, none⟩ = some (iV d.time) := yj 1 _ rfl
  have z2 : wr.cell? ⟨db, dof + q * 10 + 2, none⟩ = some (sV d.post.label) := yj 2 _ rfl
  have z3 : wr.cell? ⟨db, dof + q * 10 + 3, none⟩ = some (iV d.post.frm) := yj 3 _ rfl
  have z4 : wr.cell? ⟨db, dof + q * 10 + 4, none⟩ = some (iV d.post.dst) := yj 4 _ rfl
  have z5 : wr.cell? ⟨db, dof + q * 10 + 5, none⟩ = some (iV d.post.cls) := yj 5 _ rfl
  have z6 : wr.cell? ⟨db, dof + q * 10 + 6, none⟩ = some (iV d.post.acc) := yj 6 _ rfl
  have z7 : wr.cell? ⟨db, dof + q * 10 + 7, none⟩ = some (sV d.label) := yj 7 _ rfl
  have z8 : wr.cell? ⟨db, dof + q * 10 + 8, none⟩ = some (sV d.other) := yj 8 _ rfl
  have z9 : wr.cell? ⟨db, dof + q * 10 + 9, none⟩ = some (iV d.line) := yj 9 _ rfl
  have HDM := Lib.hid (List.mem_of_getElem? hd)
  clear y0 yj hd hqt
  go_upto_region 20 with fail
  clear z0 z1 z2 z3 z4 z5 z6 z7 z8 z9
  have hb := ba wr (dedO d)
  have hg := heap_alloc_new wr (dedO d)
  replace HBQ : Hid (Below V5.heap.size V5 (wr.alloc (dedO d))) := bt HBQ.out hb
  change Code.wp _ _ _ _ (wr.alloc (dedO d))
  generalize (wr.alloc (dedO d)) = V6 at *
  generalize wr.heap.size = Z at *
  have k0' : V6.cell? ⟨Z, 0, none⟩ = some (iV d.kind) := cell_of_row _ _ 0 _ _ _ hg
  have k1' : V6.cell? ⟨Z, 1, none⟩ = some (iV d.time) := cell_of_row _ _ 1 _ _ _ hg
  have k7' : V6.cell? ⟨Z, 7, none⟩ = some (sV d.label) := cell_of_row _ _ 7 _ _ _ hg
  have k9' : V6.cell? ⟨Z, 9, none⟩ = some (iV d.line) := cell_of_row _ _ 9 _ _ _ hg
  have u2 : V6.cell? ⟨Y, 2, none⟩ = some (iV s.depart) := cell_keepD HBQ.out (cell_of_row _ _ 2 _ _ _ HY.out)
  have u3 : V6.cell? ⟨Y, 3, none⟩ = some (iV s.line) := cell_keepD HBQ.out (cell_of_row _ _ 3 _ _ _ HY.out)
  have x0 := (HC.out V6 (HBW.out.trans (HBQ.out.mono HBW.out.size))).1.1
  clear hg hb hsd m1 m2
  have hlo := HLO.out d HDM.out
  cases e2 : (d.kind == 2) with
  | true =>
   have h2 : d.kind = 2 := by simpa using e2
   have e5 : (d.kind == 5) = false := by rw [beq_eq_false_iff_ne]; omega
   cases el : (d.label == it.post.label) with
   | true =>
    have eg : decide (d.time <= s.depart) = false := by have := (hlo.1 h2 (by simpa using el)).2 s HSM.out.2; simpa using this
    clear h2
    clear hlo
    go_quiet (fail)
    have HBN : Hid (Below V5.heap.size V5 (V6.drewN nq)) := below_drewN HBQ.out nq
    clear k0' k1' k7' k9' u2 u3 x0
    go_wp2_with fail
    go_roundw
    case rel => exact ⟨q + 1, HQT.out, by go_num, HBN⟩
    case measure => have := HQT.out; simp [intOf]; omega
   | false =>
    clear h2
    clear hlo
    go_quiet (fail)
    have HBN : Hid (Below V5.heap.size V5 (V6.drewN nq)) := below_drewN HBQ.out nq
    clear k0' k1' k7' k9' u2 u3 x0
    go_wp2_with fail
    go_roundw
    case rel => exact ⟨q + 1, HQT.out, by go_num, HBN⟩
    case measure => have := HQT.out; simp [intOf]; omega
  | false =>
   cases e5 : (d.kind == 5) with
   | true =>
    have h5 : d.kind = 5 := by simpa using e5
    cases en : (d.line == s.line) with
    | true =>
     have eg : decide (d.time <= s.depart) = false := by have h9 : d.line = s.line := (by simpa using en); have := (hlo.2 h5).2 s HSM.out.2 h9.symm; simpa using this
     clear h5
     clear hlo
     go_quiet (fail)
     have HBN : Hid (Below V5.heap.size V5 (V6.drewN nq)) := below_drewN HBQ.out nq
     clear k0' k1' k7' k9' u2 u3 x0
     go_wp2_with fail
     go_roundw
     case rel => exact ⟨q + 1, HQT.out, by go_num, HBN⟩
     case measure => have := HQT.out; simp [intOf]; omega
    | false =>
     clear h5
     clear hlo
     go_quiet (fail)
     have HBN : Hid (Below V5.heap.size V5 (V6.drewN nq)) := below_drewN HBQ.out nq
     clear k0' k1' k7' k9' u2 u3 x0
     go_wp2_with fail
     go_roundw
     case rel => exact ⟨q + 1, HQT.out, by go_num, HBN⟩
     case measure => have := HQT.out; simp [intOf]; omega
   | false =>
    clear hlo
    go_quiet (fail)
    have HBN : Hid (Below V5.heap.size V5 (V6.drewN nq)) := below_drewN HBQ.out nq
    clear k0' k1' k7' k9' u2 u3 x0
    go_wp2_with fail
    go_roundw
    case rel => exact ⟨q + 1, HQT.out, by go_num, HBN⟩
    case measure => have := HQT.out; simp [intOf]; omega
 case neg =>
 have k1 : ¬ (k : Int) < (ts.length : Int) := by omega
 have HLL : Hid (LatI dl_.time h.items h.items.length [] 0 L) := by
  have h9 := HLI.out
  have h8 := HTS.out.len
  rw [show k = h.items.length by omega] at h9
  exact h9
 replace HL := Lib.hid (HL.out.below HBW.out)
 replace HT := Lib.hid (HT.out.below HBW.out)
 clear HBW HLI hlt
 generalize wr = V7 at HL HT ⊢
 have l1 := HLL.out.hi
 have l2 : 0 <= L := by have := HLL.out.lo; have := HDL.out.1; omega
 have z0 : (0 : Int) <= (z : Int) := by omega
 have z1 : (z : Int) <= 255 := by omega
 have s1 : (0 : Int) < (ts.length : Int) := by have := HTP.out; omega
 have m0 : 0 <= (z : Int) % (ts.length : Int) := Int.emod_nonneg _ (by omega)
 have m1 : (z : Int) % (ts.length : Int) < (ts.length : Int) := Int.emod_lt_of_pos _ s1
 obtain ⟨it, a, ht, hit⟩ := HTS.out.get (i := z % ts.length) (Nat.mod_lt _ HTP.out)
 obtain ⟨tb, to_, hA, hc⟩ := HT.out.atI ht
 obtain ⟨⟨x0, -⟩, -⟩ := hc V7 (Below.refl _ _)
 have HIT := Lib.hid (List.mem_of_getElem? hit)
 rw [hA]
 have HAE := Lib.hid hA
 clear hc ht hit hA
 go_upto_region 23 with fail
 clear x0 m0 m1 s1
 have hb := ba V7 (dedO (holdD L it.post.label))
 have hg := heap_alloc_new V7 (dedO (holdD L it.post.label))
 replace HL := Lib.hid (HL.out.below hb)
 replace HT := Lib.hid (HT.out.below hb)
 change Code.wp _ _ _ _ (V7.alloc (dedO (holdD L it.post.label)))
 generalize (V7.alloc (dedO (holdD L it.post.label))) = V8 at *
 generalize V7.heap.size = Y at *
 have HY := Lib.hid hg
 clear hb hg
 by_cases hL : 1000000 < L
 case pos =>
  go_wp2_with fail
  go_ret
  exact ⟨rfl, HL.out.bel⟩
 have HLX : Hid (L <= 1000000) := by show L <= _; omega
 have HPO : Hid (it.post.label ∈ postedL ds) := by
  show _ ∈ _
  have h9 := (run_ok HF.out.sound.1.good HF.out.form HR.out HF.out.ok).1.posts
  have h8 : it.post ∈ h.items.map (·.post) := List.mem_map.2 ⟨it, HIT.out, rfl⟩
  rw [h9] at h8
  obtain ⟨x, hx, hxe⟩ := List.mem_map.1 h8
  exact List.mem_map.2 ⟨x, hx, by rw [hxe]⟩
 have hdo : DedsOk n [] 0 (ds ++ [holdD L it.post.label]) := deds_snoc HF.out.ok (by show 0 <= L; omega) (fun e he => by have h9 := HDL.out.2.2 e he; have h8 := HLL.out.lo; show e.time <= L; omega) (by show L <= _; omega) (by rw [List.nil_append]; exact .inr (.inl ⟨.inr rfl, HPO.out⟩))
 obtain ⟨g, hgr, hge⟩ := hold_end HF.out.sound.1.good HF.out.form HR.out HF.out.ok (d := holdD L it.post.label) rfl (fun x hx s hs => by
  obtain ⟨j, hj⟩ := List.getElem?_of_mem hx
  exact HLL.out.all j x (List.getElem?_eq_some_iff.1 hj).1 hj s hs)
 have HGE := Lib.hid (And.intro hgr hge)
 have HDO := Lib.hid hdo
 clear hdo hgr hge
 go_upto_region 25 with fail
 have HD0 : Hid (Below V8.heap.size V8 V8.drew) := b_drew (Below.refl _ _)
 have HSQ : Hid (∀ w', Below V8.heap.size V8 w' -> (w'.cell? ⟨N, 0, none⟩ = some (.slice n.calA n.cals.length n.calC) /\ w'.cell? ⟨N, 1, none⟩ = some (.slice n.namA n.names.length n.namC) /\ w'.cell? ⟨N, 2, none⟩ = some (.slice n.opA n.ops.length n.opC) /\ w'.cell? ⟨N, 3, none⟩ = some (.slice n.offA n.offs.length n.offC) /\ w'.cell? ⟨N, 4, none⟩ = some (.slice n.linA n.lins.length n.linC) /\ w'.cell? ⟨N, 5, none⟩ = some (.slice n.clsA n.clss.length n.clsC) /\ w'.cell? ⟨P, 0, none⟩ = some (iV fr) /\ w'.cell? ⟨P, 1, none⟩ = some (iV till) /\ w'.cell? ⟨P, 2, none⟩ = some (.slice nxA nx.length nxC) /\ w'.cell? ⟨P, 3, none⟩ = some (.slice D dl dc) /\ w'.cell? ⟨Y, 0, none⟩ = some (iV 3) /\ w'.cell? ⟨Y, 1, none⟩ = some (iV L) /\ w'.cell? ⟨Y, 2, none⟩ = some (sV []) /\ w'.cell? ⟨Y, 3, none⟩ = some (iV 0) /\ w'.cell? ⟨Y, 4, none⟩ = some (iV 0) /\ w'.cell? ⟨Y, 5, none⟩ = some (iV 0) /\ w'.cell? ⟨Y, 6, none⟩ = some (iV 0) /\ w'.cell? ⟨Y, 7, none⟩ = some (sV it.post.label) /\ w'.cell? ⟨Y, 8, none⟩ = some (sV []) /\ w'.cell? ⟨Y, 9, none⟩ = some (iV 0))) := fun w' hb => by
  obtain ⟨⟨n0, n1, n2, n3, n4, n5⟩, p0, p1, p2, p3⟩ := (HL.out.below hb).cells
  have hy := (hb.block _ (block_lt HY.out)).trans HY.out
  exact ⟨n0, n1, n2, n3, n4, n5, p0, p1, p2, p3, cell_of_row _ _ 0 _ _ _ hy, cell_of_row _ _ 1 _ _ _ hy, cell_of_row _ _ 2 _ _ _ hy, cell_of_row _ _ 3 _ _ _ hy, cell_of_row _ _ 4 _ _ _ hy, cell_of_row _ _ 5 _ _ _ hy, cell_of_row _ _ 6 _ _ _ hy, cell_of_row _ _ 7 _ _ _ hy, cell_of_row _ _ 8 _ _ _ hy, cell_of_row _ _ 9 _ _ _ hy⟩
 have HRUN : Hid (∀ W A' C', Below V8.heap.size V8 W -> Rd W A' ((ds ++ [holdD L it.post.label]).flatMap encD) -> Calls Tryz.prog 13 #[netV n, planV fr till nxA nx.length nxC D dl dc, .slice A' (ds.length + 1) C'] W (RunL W n nx (ds ++ [holdD L it.post.label]))) := fun W A' C' hb hr =>
  (HL.out.below hb).run HF.out.sound HF.out.form HF.out.six (m := ds.length + 1) (by simp) HDO.out (by simp; omega) A' C' hr
 have HDS : Hid (∀ W, Below V8.heap.size V8 W -> ∀ (j : Nat) (u : Value), (ds.flatMap encD)[j]? = some u -> W.cell? ((⟨db, dof, none⟩ : Addr).add j) = some u) := fun W hb j u hu => by
  have h9 := HL.out.rd.below hb
  rw [HDA.out] at h9
  rcases h9 with h9 | ⟨b', o', h8, -, h7⟩
  ·rw [h9] at hu; simp at hu
  ·cases h8
   rw [add_at]
   exact h7 j u hu
 obtain ⟨i0, hi0, hz0, hz1, hz2⟩ := info_parts dedInfD
 have hdpos : 0 < ds.length := by have h9 := HDP.out; omega
 have hfl : (ds.flatMap encD).length = ds.length * 10 := deds_len ds
 have h1c : ∀ u ∈ ds.flatMap encD, u.oneCell' = true := fun u hu => by
  obtain ⟨x, -, hx⟩ := List.mem_flatMap.1 hu
  simp [encD] at hx
  rcases hx with rfl | rfl | rfl | rfl | rfl | rfl | rfl | rfl | rfl | rfl <;> rfl
 have HFC := Lib.hid (And.intro hfl h1c)
 clear hfl h1c hL
 refine wp_region_noPanic ?_
 refine wp_region_L 8 (fun w' => w'.cell? ⟨N, 0, none⟩ = some (.slice n.calA n.cals.length n.calC) /\ w'.cell? ⟨N, 1, none⟩ = some (.slice n.namA n.names.length n.namC) /\ w'.cell? ⟨N, 2, none⟩ = some (.slice n.opA n.ops.length n.opC) /\ w'.cell? ⟨N, 3, none⟩ = some (.slice n.offA n.offs.length n.offC) /\ w'.cell? ⟨N, 4, none⟩ = some (.slice n.linA n.lins.length n.linC) /\ w'.cell? ⟨N, 5, none⟩ = some (.slice n.clsA n.clss.length n.clsC) /\ w'.cell? ⟨P, 0, none⟩ = some (iV fr) /\ w'.cell? ⟨P, 1, none⟩ = some (iV till) /\ w'.cell? ⟨P, 2, none⟩ = some (.slice nxA nx.length nxC) /\ w'.cell? ⟨P, 3, none⟩ = some (.slice D dl dc) /\ w'.cell? ⟨Y, 0, none⟩ = some (iV 3) /\ w'.cell? ⟨Y, 1, none⟩ = some (iV L) /\ w'.cell? ⟨Y, 2, none⟩ = some (sV []) /\ w'.cell? ⟨Y, 3, none⟩ = some (iV 0) /\ w'.cell? ⟨Y, 4, none⟩ = some (iV 0) /\ w'.cell? ⟨Y, 5, none⟩ = some (iV 0) /\ w'.cell? ⟨Y, 6, none⟩ = some (iV 0) /\ w'.cell? ⟨Y, 7, none⟩ = some (sV it.post.label) /\ w'.cell? ⟨Y, 8, none⟩ = some (sV []) /\ w'.cell? ⟨Y, 9, none⟩ = some (iV 0)) (by kernel_rfl) (HSQ.out _ HD0.out) (fun hHeld => ?_)
 refine taL 0 ?_
 try simp only [LY]
 refine taL 1 ?_
 try simp only [LY]
 refine puL 3 ?_
 try simp only [LY]
 refine taL 5 ?_
 try simp only [LY]
 refine wpAnyL_ready (rs := [2, 6]) (by kernel_rfl) (by simp) ?_
 refine AllReadyL.cons rfl (fun K hK => ?r1) (AllReadyL.cons rfl (fun K hK => ?r2) AllReadyL.nil)
 case r1 =>
  go_simp
  refine hK.out _ _ (HSQ.out _ (bt HD0.out (ba _ _))) (fun hHeld => ?_)
  clear hK K
  try simp only [LY]
  refine wpAnyL_ready (rs := [4, 6]) (by kernel_rfl) (by simp) ?_
  refine AllReadyL.cons rfl (fun K hK => ?r3) (AllReadyL.cons rfl (fun K hK => ?r4) AllReadyL.nil)
  case r3 =>
   refine step_append_lies _ (by rfl) (.tmp 158) (.tmp 159) _ (by rfl) V8.heap.size 44 i0 _ 10 104 Tryz.underlying34 hi0 hz0 hz1 hz2 rfl (by omega) _ 0 [] (by rfl) (own_block (heap_alloc_new V8.drew (.cells #[] 44)) (by simp) rfl (by decide) rfl) ⟨db, dof, none⟩ ds.length DC (ds.flatMap encD) (by rfl) HFC.out.1 (HDS.out _ (bt HD0.out (ba _ _))) HFC.out.2 hdpos (by unfold maxLen; omega) (by omega) (by simp <;> omega) _ rfl ?_
   intro g4 d4 v4 own4 hg4 hat4 hlt4
   rw [Nat.zero_add] at own4 ⊢
   have HO4 := Lib.hid own4
   have HV4 : Hid (Below V8.heap.size V8 v4) := ((bt HD0.out (ba _ _))).grown hg4 (by simp <;> omega) (fun x hx => by have h9 := Option.some.inj hx; simp at h9 <;> omega)
   clear own4 hg4 hat4 hlt4
   refine hK.out _ _ (HSQ.out _ HV4.out) (fun hHeld => ?_)
   clear hK K
   try simp only [LY]
   refine reL 6 (fun K hK => ?_)
   go_simp
   refine hK.out _ _ (HSQ.out _ (bt HV4.out (ba _ _))) (fun hHeld => ?_)
   clear hK K
   try simp only [LY]
   refine reL 7 (fun K hK => ?_)
   refine step_append_lies _ (by rfl) (.tmp 160) (.tmp 162) _ (by rfl) V8.heap.size 44 i0 _ 10 104 Tryz.underlying34 hi0 hz0 hz1 hz2 rfl (by omega) _ _ _ (by rfl) (own_below HO4.out (ba v4 _)) ⟨_, 0, none⟩ 1 1 (encD (holdD L it.post.label)) (by rfl) rfl (fun j u hu => by rw [add_at, Nat.zero_add]; exact (cell_of_row _ _ j _ _ _ (heap_alloc_new _ _)).trans (by simpa [encD] using hu)) (fun u hu => by simp [encD] at hu; rcases hu with rfl | rfl | rfl | rfl | rfl | rfl | rfl | rfl | rfl | rfl <;> rfl) (by omega) (by unfold maxLen; omega) (by omega) (by have h9 := HV4.out.size; simp <;> omega) _ rfl ?_
   intro g7 d7 v7 own7 hg7 hat7 hlt7
   have HO7 := Lib.hid own7
   have HV7 : Hid (Below V8.heap.size V8 v7) := ((bt HV4.out (ba _ _))).grown hg7 (by have h9 := HV4.out.size; simp <;> omega) (fun x hx => (own_lt HO4.out hx).1)
   clear own7 hg7 hat7 hlt7
   refine hK.out _ _ (HSQ.out _ HV7.out) (fun hHeld => ?_)
   clear hK K
   try simp only [LY]
   refine wpAnyL_store (by kernel_rfl) rfl (fun K hK => ?_)
   go_simp
   have hrd : Rd v7 (some ⟨g7, 0, none⟩) ((ds ++ [holdD L it.post.label]).flatMap encD) := by
    have h9 := rd_own HO7.out
    rw [List.flatMap_append]
    exact (by simpa using h9)
   have hcc := HRUN.out v7 (some ⟨g7, 0, none⟩) d7 HV7.out hrd
   have HCC : Hid (Calls Tryz.prog 13 #[netV n, planV fr till nxA nx.length nxC D dl dc, .slice (some ⟨g7, 0, none⟩) (ds.length + 1) d7] v7 (RunL v7 n nx (ds ++ [holdD L it.post.label]))) := hcc
   clear hcc hrd
   first | refine HCC.out.mono ?_ | (have h9 := HCC.out; rw [show ds.length + 1 = 0 + ds.length + 1 by omega] at h9; refine h9.mono ?_)
   rintro e V9 ⟨hb9, ⟨hr9, rfl⟩ | ⟨g', ts', A9, c9, hr9, hts9, rfl, hT9⟩⟩
   ·rw [HGE.out.1] at hr9; cases hr9
   rw [HGE.out.1] at hr9
   cases hr9
   have HB9 : Hid (Below V8.heap.size V8 V9) := bt HV7.out hb9
   have HTS9 := Lib.hid hts9
   have HT9 := Lib.hid hT9
   clear hb9 hts9 hT9
   go_wp2_with fail
   refine hK.out _ _ ?_
   clear hK K
   try simp only [LY]
   refine ta0 9 ?_
   try simp only [LY]
   refine ta0 10 ?_
   try simp only [LY]
   refine ta0 11 ?_
   try simp only [LY]
   refine ta0 12 ?_
   try simp only [LY]
   refine ta0 13 ?_
   try simp only [LY]
   refine wpAny_done (by kernel_rfl) ?_ _
   refine NoPanic.normal ?_
   change Exit.then _ _ _ _ V9
   have HSL : Hid (SameL ts ts') := by
    have hlen := congrArg List.length HGE.out.2
    rw [List.length_map, List.length_map] at hlen
    refine ⟨by rw [HTS.out.len, HTS9.out.len, hlen], fun i x y hx hy => ?_⟩
    obtain ⟨ix, ax, h1, rfl⟩ := HTS.out.at_ i x hx
    obtain ⟨iy, ay, h2, rfl⟩ := HTS9.out.at_ i y hy
    have h3 : (g.items.map trackI)[i]? = (h.items.map trackI)[i]? := by rw [HGE.out.2]
    rw [List.getElem?_map, List.getElem?_map, h1, h2] at h3
    have h4 : trackI iy = trackI ix := by simpa using h3
    exact ⟨(congrArg Itm.post h4).symm, (congrArg Itm.stops h4).symm, (congrArg Itm.lost h4).symm, (congrArg Itm.since h4).symm, (congrArg Itm.labs h4).symm, (congrArg Itm.seals h4).symm⟩
   have hcall := same_refl ts ts' (some ⟨tb, to_, none⟩) A9 c c9 V9 HSL.out (by have h9 := HT.out.rd.below HB9.out; rw [HAE.out] at h9; exact h9) HT9.out.rd (fun x hx => (HT.out.tr x hx).below HB9.out) HT9.out.tr (fun x hx => by
    obtain ⟨j, hj⟩ := List.getElem?_of_mem hx
    obtain ⟨ix, ax, h1, rfl⟩ := HTS.out.at_ j x hj
    exact (HF.out.item HR.out (List.mem_of_getElem? h1) ax).short) (by omega)
   have HCA := Lib.hid hcall
   clear hcall
   go_wp2_with fail
   refine HCA.out.mono ?_
   rintro e u9 ⟨rfl, hb⟩
   have HBZ : Hid (Below w.heap.size w u9) := HL.out.bel.trans ((bt HB9.out hb).mono HL.out.bel.size)
   clear hb
   go_wp2_with fail
   go_ret
   exact ⟨rfl, HBZ.out⟩
  case r4 =>
   go_simp
   refine hK.out _ _ (HSQ.out _ (bt (bt HD0.out (ba _ _)) (ba _ _))) (fun hHeld => ?_)
   clear hK K
   try simp only [LY]
   refine reL 4 (fun K hK => ?_)
   refine step_append_lies _ (by rfl) (.tmp 158) (.tmp 159) _ (by rfl) V8.heap.size 44 i0 _ 10 104 Tryz.underlying34 hi0 hz0 hz1 hz2 rfl (by omega) _ 0 [] (by rfl) (own_below (own_block (heap_alloc_new V8.drew (.cells #[] 44)) (by simp) rfl (by decide) rfl) (ba _ _)) ⟨db, dof, none⟩ ds.length DC (ds.flatMap encD) (by rfl) HFC.out.1 (HDS.out _ (bt (bt HD0.out (ba _ _)) (ba _ _))) HFC.out.2 hdpos (by unfold maxLen; omega) (by omega) (by simp <;> omega) _ rfl ?_
   intro g4 d4 v4 own4 hg4 hat4 hlt4
   rw [Nat.zero_add] at own4 ⊢
   have HO4 := Lib.hid own4
   have HV4 : Hid (Below V8.heap.size V8 v4) := ((bt (bt HD0.out (ba _ _)) (ba _ _))).grown hg4 (by simp <;> omega) (fun x hx => by have h9 := Option.some.inj hx; simp at h9 <;> omega)
   have HH4 : Hid (v4.heap[V8.heap.size + 1]? = some (dedO (holdD L it.post.label))) := by
    have h9 := (hg4.block (V8.drew.alloc (.cells #[] 44)).heap.size (by simp) (fun e => by have h9 := Option.some.inj e; simp at h9 <;> omega)).trans (heap_alloc_new (V8.drew.alloc (.cells #[] 44)) (dedO (holdD L it.post.label)))
    rw [World.size_alloc] at h9
    exact h9
   clear own4 hg4 hat4 hlt4
   refine hK.out _ _ (HSQ.out _ HV4.out) (fun hHeld => ?_)
   clear hK K
   try simp only [LY]
   refine reL 7 (fun K hK => ?_)
   refine step_append_lies _ (by rfl) (.tmp 160) (.tmp 162) _ (by rfl) V8.heap.size 44 i0 _ 10 104 Tryz.underlying34 hi0 hz0 hz1 hz2 rfl (by omega) _ _ _ (by rfl) HO4.out ⟨_, 0, none⟩ 1 1 (encD (holdD L it.post.label)) (by rfl) rfl (fun j u hu => by rw [add_at, Nat.zero_add]; exact (cell_of_row _ _ j _ _ _ HH4.out).trans (by simpa [encD] using hu)) (fun u hu => by simp [encD] at hu; rcases hu with rfl | rfl | rfl | rfl | rfl | rfl | rfl | rfl | rfl | rfl <;> rfl) (by omega) (by unfold maxLen; omega) (by omega) (by have h9 := HV4.out.size; simp <;> omega) _ rfl ?_
   intro g7 d7 v7 own7 hg7 hat7 hlt7
   have HO7 := Lib.hid own7
   have HV7 : Hid (Below V8.heap.size V8 v7) := (HV4.out).grown hg7 (by have h9 := HV4.out.size; simp <;> omega) (fun x hx => (own_lt HO4.out hx).1)
   clear own7 hg7 hat7 hlt7
   refine hK.out _ _ (HSQ.out _ HV7.out) (fun hHeld => ?_)
   clear hK K
   try simp only [LY]
   refine wpAnyL_store (by kernel_rfl) rfl (fun K hK => ?_)
   go_simp
   have hrd : Rd v7 (some ⟨g7, 0, none⟩) ((ds ++ [holdD L it.post.label]).flatMap encD) := by
    have h9 := rd_own HO7.out
    rw [List.flatMap_append]
    exact (by simpa using h9)
   have hcc := HRUN.out v7 (some ⟨g7, 0, none⟩) d7 HV7.out hrd
   have HCC : Hid (Calls Tryz.prog 13 #[netV n, planV fr till nxA nx.length nxC D dl dc, .slice (some ⟨g7, 0, none⟩) (ds.length + 1) d7] v7 (RunL v7 n nx (ds ++ [holdD L it.post.label]))) := hcc
   clear hcc hrd
   first | refine HCC.out.mono ?_ | (have h9 := HCC.out; rw [show ds.length + 1 = 0 + ds.length + 1 by omega] at h9; refine h9.mono ?_)
   rintro e V9 ⟨hb9, ⟨hr9, rfl⟩ | ⟨g', ts', A9, c9, hr9, hts9, rfl, hT9⟩⟩
   ·rw [HGE.out.1] at hr9; cases hr9
   rw [HGE.out.1] at hr9
   cases hr9
   have HB9 : Hid (Below V8.heap.size V8 V9) := bt HV7.out hb9
   have HTS9 := Lib.hid hts9
   have HT9 := Lib.hid hT9
   clear hb9 hts9 hT9
   go_wp2_with fail
   refine hK.out _ _ ?_
   clear hK K
   try simp only [LY]
   refine ta0 9 ?_
   try simp only [LY]
   refine ta0 10 ?_
   try simp only [LY]
   refine ta0 11 ?_
   try simp only [LY]
   refine ta0 12 ?_
   try simp only [LY]
   refine ta0 13 ?_
   try simp only [LY]
   refine wpAny_done (by kernel_rfl) ?_ _
   refine NoPanic.normal ?_
   change Exit.then _ _ _ _ V9
   have HSL : Hid (SameL ts ts') := by
    have hlen := congrArg List.length HGE.out.2
    rw [List.length_map, List.length_map] at hlen
    refine ⟨by rw [HTS.out.len, HTS9.out.len, hlen], fun i x y hx hy => ?_⟩
    obtain ⟨ix, ax, h1, rfl⟩ := HTS.out.at_ i x hx
    obtain ⟨iy, ay, h2, rfl⟩ := HTS9.out.at_ i y hy
    have h3 : (g.items.map trackI)[i]? = (h.items.map trackI)[i]? := by rw [HGE.out.2]
    rw [List.getElem?_map, List.getElem?_map, h1, h2] at h3
    have h4 : trackI iy = trackI ix := by simpa using h3
    exact ⟨(congrArg Itm.post h4).symm, (congrArg Itm.stops h4).symm, (congrArg Itm.lost h4).symm, (congrArg Itm.since h4).symm, (congrArg Itm.labs h4).symm, (congrArg Itm.seals h4).symm⟩
   have hcall := same_refl ts ts' (some ⟨tb, to_, none⟩) A9 c c9 V9 HSL.out (by have h9 := HT.out.rd.below HB9.out; rw [HAE.out] at h9; exact h9) HT9.out.rd (fun x hx => (HT.out.tr x hx).below HB9.out) HT9.out.tr (fun x hx => by
    obtain ⟨j, hj⟩ := List.getElem?_of_mem hx
    obtain ⟨ix, ax, h1, rfl⟩ := HTS.out.at_ j x hj
    exact (HF.out.item HR.out (List.mem_of_getElem? h1) ax).short) (by omega)
   have HCA := Lib.hid hcall
   clear hcall
   go_wp2_with fail
   refine HCA.out.mono ?_
   rintro e u9 ⟨rfl, hb⟩
   have HBZ : Hid (Below w.heap.size w u9) := HL.out.bel.trans ((bt HB9.out hb).mono HL.out.bel.size)
   clear hb
   go_wp2_with fail
   go_ret
   exact ⟨rfl, HBZ.out⟩
 case r2 =>
  go_simp
  refine hK.out _ _ (HSQ.out _ (bt HD0.out (ba _ _))) (fun hHeld => ?_)
  clear hK K
  try simp only [LY]
  refine reL 2 (fun K hK => ?_)
  go_simp
  refine hK.out _ _ (HSQ.out _ (bt (bt HD0.out (ba _ _)) (ba _ _))) (fun hHeld => ?_)
  clear hK K
  try simp only [LY]
  refine reL 4 (fun K hK => ?_)
  have hoe : ((V8.drew.alloc (dedO (holdD L it.post.label))).alloc (.cells #[] 44)).ownsRow V8.heap.size 44 10 (.slice (some ⟨V8.heap.size + 1, 0, none⟩) 0 0) 0 [] := by
   have h9 := own_block (base := V8.heap.size) (n := 0) (size := 10) (xs := []) (heap_alloc_new (V8.drew.alloc (dedO (holdD L it.post.label))) (.cells #[] 44)) (by simp) rfl (by decide) rfl
   rw [World.size_alloc] at h9
   exact h9
  refine step_append_lies _ (by rfl) (.tmp 158) (.tmp 159) _ (by rfl) V8.heap.size 44 i0 _ 10 104 Tryz.underlying34 hi0 hz0 hz1 hz2 rfl (by omega) _ 0 [] (by rfl) hoe ⟨db, dof, none⟩ ds.length DC (ds.flatMap encD) (by rfl) HFC.out.1 (HDS.out _ (bt (bt HD0.out (ba _ _)) (ba _ _))) HFC.out.2 hdpos (by unfold maxLen; omega) (by omega) (by simp <;> omega) _ rfl ?_
  intro g4 d4 v4 own4 hg4 hat4 hlt4
  rw [Nat.zero_add] at own4 ⊢
  have HO4 := Lib.hid own4
  have HV4 : Hid (Below V8.heap.size V8 v4) := ((bt (bt HD0.out (ba _ _)) (ba _ _))).grown hg4 (by simp <;> omega) (fun x hx => by have h9 := Option.some.inj hx; simp at h9 <;> omega)
  have HH4 : Hid (v4.heap[V8.heap.size]? = some (dedO (holdD L it.post.label))) := (hg4.block V8.heap.size (by simp <;> omega) (fun e => by have h9 := Option.some.inj e; simp at h9 <;> omega)).trans (((ba (V8.drew.alloc (dedO (holdD L it.post.label))) (.cells #[] 44)).block V8.heap.size (by simp <;> omega)).trans (heap_alloc_new V8.drew (dedO (holdD L it.post.label))))
  clear own4 hg4 hat4 hlt4
  refine hK.out _ _ (HSQ.out _ HV4.out) (fun hHeld => ?_)
  clear hK K
  try simp only [LY]
  refine reL 7 (fun K hK => ?_)
  refine step_append_lies _ (by rfl) (.tmp 160) (.tmp 162) _ (by rfl) V8.heap.size 44 i0 _ 10 104 Tryz.underlying34 hi0 hz0 hz1 hz2 rfl (by omega) _ _ _ (by rfl) HO4.out ⟨_, 0, none⟩ 1 1 (encD (holdD L it.post.label)) (by rfl) rfl (fun j u hu => by rw [add_at, Nat.zero_add]; exact (cell_of_row _ _ j _ _ _ HH4.out).trans (by simpa [encD] using hu)) (fun u hu => by simp [encD] at hu; rcases hu with rfl | rfl | rfl | rfl | rfl | rfl | rfl | rfl | rfl | rfl <;> rfl) (by omega) (by unfold maxLen; omega) (by omega) (by have h9 := HV4.out.size; simp <;> omega) _ rfl ?_
  intro g7 d7 v7 own7 hg7 hat7 hlt7
  have HO7 := Lib.hid own7
  have HV7 : Hid (Below V8.heap.size V8 v7) := (HV4.out).grown hg7 (by have h9 := HV4.out.size; simp <;> omega) (fun x hx => (own_lt HO4.out hx).1)
  clear own7 hg7 hat7 hlt7
  refine hK.out _ _ (HSQ.out _ HV7.out) (fun hHeld => ?_)
  clear hK K
  try simp only [LY]
  refine wpAnyL_store (by kernel_rfl) rfl (fun K hK => ?_)
  go_simp
  have hrd : Rd v7 (some ⟨g7, 0, none⟩) ((ds ++ [holdD L it.post.label]).flatMap encD) := by
   have h9 := rd_own HO7.out
   rw [List.flatMap_append]
   exact (by simpa using h9)
  have hcc := HRUN.out v7 (some ⟨g7, 0, none⟩) d7 HV7.out hrd
  have HCC : Hid (Calls Tryz.prog 13 #[netV n, planV fr till nxA nx.length nxC D dl dc, .slice (some ⟨g7, 0, none⟩) (ds.length + 1) d7] v7 (RunL v7 n nx (ds ++ [holdD L it.post.label]))) := hcc
  clear hcc hrd
  first | refine HCC.out.mono ?_ | (have h9 := HCC.out; rw [show ds.length + 1 = 0 + ds.length + 1 by omega] at h9; refine h9.mono ?_)
  rintro e V9 ⟨hb9, ⟨hr9, rfl⟩ | ⟨g', ts', A9, c9, hr9, hts9, rfl, hT9⟩⟩
  ·rw [HGE.out.1] at hr9; cases hr9
  rw [HGE.out.1] at hr9
  cases hr9
  have HB9 : Hid (Below V8.heap.size V8 V9) := bt HV7.out hb9
  have HTS9 := Lib.hid hts9
  have HT9 := Lib.hid hT9
  clear hb9 hts9 hT9
  go_wp2_with fail
  refine hK.out _ _ ?_
  clear hK K
  try simp only [LY]
  refine ta0 9 ?_
  try simp only [LY]
  refine ta0 10 ?_
  try simp only [LY]
  refine ta0 11 ?_
  try simp only [LY]
  refine ta0 12 ?_
  try simp only [LY]
  refine ta0 13 ?_
  try simp only [LY]
  refine wpAny_done (by kernel_rfl) ?_ _
  refine NoPanic.normal ?_
  change Exit.then _ _ _ _ V9
  have HSL : Hid (SameL ts ts') := by
   have hlen := congrArg List.length HGE.out.2
   rw [List.length_map, List.length_map] at hlen
   refine ⟨by rw [HTS.out.len, HTS9.out.len, hlen], fun i x y hx hy => ?_⟩
   obtain ⟨ix, ax, h1, rfl⟩ := HTS.out.at_ i x hx
   obtain ⟨iy, ay, h2, rfl⟩ := HTS9.out.at_ i y hy
   have h3 : (g.items.map trackI)[i]? = (h.items.map trackI)[i]? := by rw [HGE.out.2]
   rw [List.getElem?_map, List.getElem?_map, h1, h2] at h3
   have h4 : trackI iy = trackI ix := by simpa using h3
   exact ⟨(congrArg Itm.post h4).symm, (congrArg Itm.stops h4).symm, (congrArg Itm.lost h4).symm, (congrArg Itm.since h4).symm, (congrArg Itm.labs h4).symm, (congrArg Itm.seals h4).symm⟩
  have hcall := same_refl ts ts' (some ⟨tb, to_, none⟩) A9 c c9 V9 HSL.out (by have h9 := HT.out.rd.below HB9.out; rw [HAE.out] at h9; exact h9) HT9.out.rd (fun x hx => (HT.out.tr x hx).below HB9.out) HT9.out.tr (fun x hx => by
   obtain ⟨j, hj⟩ := List.getElem?_of_mem hx
   obtain ⟨ix, ax, h1, rfl⟩ := HTS.out.at_ j x hj
   exact (HF.out.item HR.out (List.mem_of_getElem? h1) ax).short) (by omega)
  have HCA := Lib.hid hcall
  clear hcall
  go_wp2_with fail
  refine HCA.out.mono ?_
  rintro e u9 ⟨rfl, hb⟩
  have HBZ : Hid (Below w.heap.size w u9) := HL.out.bel.trans ((bt HB9.out hb).mono HL.out.bel.size)
  clear hb
  go_wp2_with fail
  go_ret
  exact ⟨rfl, HBZ.out⟩
end
end Go.Proofs.YtpeaiphdkgifaaaGreatDoor
