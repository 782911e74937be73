/-
  The walk over the law WorldStops.
-/
import Derived.Test.YtpeaiphdkgifaaaGreatDoorWxWStops
namespace Go.Proofs.YtpeaiphdkgifaaaGreatDoor
open Go.RowKit
set_option maxHeartbeats 20000000
set_option maxRecDepth 100000
section
attribute [local go_sem] Oper.semAt_some
abbrev isPost (d : Ded) : Bool := d.kind == 1
theorem filter_at {ds : List Ded} {k : Nat} {d : Ded} (hd : ds[k]? = some d) (h : isPost d = true) : (ds.filter isPost)[((ds.take k).filter isPost).length]? = some d := by
 obtain ⟨hk, he⟩ := List.getElem?_eq_some_iff.1 hd
 have e : ds = ds.take k ++ d :: ds.drop (k + 1) := by
  rw [<- he, <- List.drop_eq_getElem_cons hk, List.take_append_drop]
 have e2 : ds.filter isPost = (ds.take k).filter isPost ++ d :: (ds.drop (k + 1)).filter isPost := by
  conv => lhs; rw [e]
  rw [List.filter_append, List.filter_cons_of_pos h]
 rw [e2, List.getElem?_append_right (Nat.le_refl _), Nat.sub_self]
 rfl
theorem filter_step {ds : List Ded} {k : Nat} {d : Ded} (hd : ds[k]? = some d) : ((ds.take (k + 1)).filter isPost).length = ((ds.take k).filter isPost).length + if isPost d = true then 1 else 0 := by
 rw [List.take_add_one, hd, List.filter_append, List.length_append]
 congr 1
 show (List.filter isPost [d]).length = _
 by_cases h : isPost d = true
 ·rw [if_pos h, List.filter_cons_of_pos h]
  rfl
 ·rw [if_neg h, List.filter_cons_of_neg h]
  rfl
theorem posts_at {n : Net} {nx : List NsC} {ds : List Ded} {T : Int} {h : Hst} (H : HsOk n nx ds T h) {k : Nat} {d : Ded} (hd : ds[k]? = some d) (hp : isPost d = true) : ∃ it, h.items[((ds.take k).filter isPost).length]? = some it /\ it.post = d.post := by
 have h1 := filter_at hd hp
 have h2 := H.posts
 have h3 : (h.items.map (·.post))[((ds.take k).filter isPost).length]? = some d.post := by
  rw [h2, List.getElem?_map]
  show Option.map _ ((ds.filter isPost)[_]?) = _
  rw [h1]
  rfl
 rw [List.getElem?_map] at h3
 obtain ⟨it, h4, h5⟩ := Option.map_eq_some_iff.1 h3
 exact ⟨it, h4, h5⟩
theorem path_first {n : Net} {it : Itm} (h : ItOk n it) : ∃ s, it.stops[0]? = some s /\ s.office = it.post.frm /\ s.arrive = it.post.acc := by
 obtain ⟨s, l, h1, h2, h3⟩ := h.head
 exact ⟨s, by rw [h1]; rfl, h2, h3⟩
theorem path_lastAt {n : Net} {it : Itm} (h : ItOk n it) {p : Nat} (hp : p + 1 = it.stops.length) : ∃ s, it.stops[p]? = some s /\ s.depart = -1 /\ s.line = -1 := by
 have h1 := path_last h.path
 have h2 : it.stops[p]? = some (lastSt it.stops) := by
  unfold lastSt
  rw [List.getLastD_eq_getLast?, List.getLast?_eq_getElem?, show it.stops.length - 1 = p by omega, List.getElem?_eq_getElem (by omega)]
  rfl
 exact ⟨_, h2, h1.1, h1.2⟩
theorem wstops_any (n : Net) (fr till : Int) (nx : List NsC) (nxA : Option Addr) (nxC : Nat) (D : Option Addr) (dl dc : Nat) (DA : Option Addr) (DC : Nat) (ds : List Ded) (w : World) (h : LawIn w n nx nxA DA DC ds) :
  Calls Tryz.prog 3 #[netV n, planV fr till nxA nx.length nxC D dl dc, .slice DA ds.length DC] w fun e w' => e = .returned (.bool true) /\ Below w.heap.size w w' := by
 have HIN := Lib.hid h
 have HL := Lib.hid (LwW.start (fr := fr) (till := till) (nxC := nxC) (D := D) (dl := dl) (dc := dc) h)
 clear h
 go_enter Tryz.func3, Tryz.ntmps3
 go_upto_region 1 with fail
 change Code.wp _ _ _ _ (allocs w (runObjs n fr till nxA nx.length nxC D dl dc))
 generalize allocs w (runObjs n fr till nxA nx.length nxC D dl dc) = V1 at HL ⊢
 generalize hN : w.heap.size = N at HL ⊢
 rw [<- hN] at HL
 have HL : Hid (LwW w n fr till nx nxA nxC D dl dc DA ds N (N + 1) V1) := by have h9 := HL.out; rw [hN] at h9; exact h9
 generalize hP : N + 1 = P at HL ⊢
 clear hN hP
 go_wp2_with fail
 refine (headW_any V1 HL.out.kw HL.out.pw).mono ?_
 rintro e V2 ⟨rfl, hb⟩
 replace HL := Lib.hid (HL.out.below hb)
 clear hb
 obtain ⟨⟨n0, n1, n2, n3, n4, n5⟩, p0, p1, p2, p3⟩ := HL.out.cells
 go_wp2_with fail
 have hcall := HL.out.fine (DC := DC) (fr := fr) (till := till) HIN.out
 have HCALL := Lib.hid hcall
 clear hcall
 with_reducible refine HCALL.out.mono ?_
 rintro e V3 ⟨⟨b, rfl, hf⟩, hb⟩
 clear HCALL
 clear n0 n1 n2 n3 n4 n5 p0 p1 p2 p3
 replace HL := Lib.hid (HL.out.below hb)
 clear hb
 have HFF := Lib.hid hf
 clear hf
 cases b
 case false =>
  go_wp2_with fail
  go_ret
  exact ⟨rfl, HL.out.bel⟩
 have HF := Lib.hid (HFF.out rfl)
 clear HFF
 obtain ⟨⟨n0, n1, n2, n3, n4, n5⟩, p0, p1, p2, p3⟩ := HL.out.cells
 go_wp2_with fail
 have hcall := HL.out.run HF.out.sound HF.out.form HF.out.six (ds' := ds) rfl HF.out.ok (by have := HF.out.deds; omega) DA DC HL.out.rd
 have HCALL := Lib.hid hcall
 clear hcall
 with_reducible refine HCALL.out.mono ?_
 rintro e V4 ⟨hb, hR⟩
 clear HCALL
 clear n0 n1 n2 n3 n4 n5 p0 p1 p2 p3
 replace HL := Lib.hid (HL.out.below hb)
 clear hb
 rcases hR with ⟨hr, rfl⟩ | ⟨h, ts, A, c, hr, hts, rfl, hT⟩
 case inl =>
  clear hr
  go_wp2_with fail
  go_ret
  exact ⟨rfl, HL.out.bel⟩
 have HR := Lib.hid hr
 have HTS := Lib.hid hts
 have HT := Lib.hid hT
 have hl16 : ts.length <= 16 := by rw [hts.len]; exact HF.out.few16 hr
 have hd16 : ds.length <= 16 := HF.out.deds
 clear hr hts hT
 have HHS := Lib.hid (run_ok HF.out.sound.1.good HF.out.form HR.out HF.out.ok).1
 go_wp2_with fail
 go_loopw [10, 11] (fun c i wr => ∃ k q : Nat, k <= ds.length /\ q <= k /\ i = iV k /\ c = iV q /\ Hid (q = ((ds.take k).filter isPost).length) /\ Hid (Below V4.heap.size V4 wr)) (fun _ i _ => ds.length + 1 - (intOf i).toNat)
 case atStart => exact ⟨0, 0, Nat.zero_le _, Nat.le_refl _, rfl, rfl, Lib.hid rfl, Lib.hid (Below.refl _ _)⟩
 case round =>
 obtain ⟨k, q, hk, hqk, rfl, rfl, HQ, HBW⟩ := hrel
 have k0 : (0 : Int) <= (k : Int) := by omega
 have q0 : (0 : Int) <= (q : Int) := by omega
 by_cases hlt : k < ds.length
 case pos =>
  have HLT := Lib.hid hlt
  have k1 : (k : Int) < (ds.length : Int) := by omega
  obtain ⟨d, hd⟩ : ∃ d, ds[k]? = some d := ⟨_, List.getElem?_eq_getElem hlt⟩
  obtain ⟨-, db, dof, hDA, -, y0, yj⟩ := elem_at encD_len (HL.out.rd.below HBW.out) hd (by omega)
  have z0 : wr.cell? ⟨db, dof + k * 10, none⟩ = some (iV d.kind) := y0 _ rfl
  have z2 : wr.cell? ⟨db, dof + k * 10 + 2, none⟩ = some (sV d.post.label) := yj 2 _ rfl
  have z3 : wr.cell? ⟨db, dof + k * 10 + 3, none⟩ = some (iV d.post.frm) := yj 3 _ rfl
  have z4 : wr.cell? ⟨db, dof + k * 10 + 4, none⟩ = some (iV d.post.dst) := yj 4 _ rfl
  have z5 : wr.cell? ⟨db, dof + k * 10 + 5, none⟩ = some (iV d.post.cls) := yj 5 _ rfl
  have z6 : wr.cell? ⟨db, dof + k * 10 + 6, none⟩ = some (iV d.post.acc) := yj 6 _ rfl
  have HST := Lib.hid (filter_step hd)
  have HDE := Lib.hid hd
  rw [hDA]
  clear y0 yj hd hDA hlt
  cases e1 : (d.kind == 1) with
  | false =>
   have E1 := Lib.hid e1
   go_wp2_with fail
   go_roundw
   case rel => exact ⟨k + 1, q, HLT.out, Nat.le_succ_of_le hqk, by go_num, rfl, Lib.hid (by rw [HST.out, if_neg (by show ¬ (d.kind == 1) = true; rw [E1.out]; simp), <- HQ.out]; rfl), HBW⟩
   case measure => have := HLT.out; simp [intOf]; omega
  | true =>
   have E1 := Lib.hid e1
   obtain ⟨it, hit, hpo⟩ := posts_at HHS.out HDE.out e1
   rw [<- HQ.out] at hit
   have hqt : q < ts.length := by rw [HTS.out.len]; exact (List.getElem?_eq_some_iff.1 hit).1
   have q1 : (q : Int) < (ts.length : Int) := by omega
   obtain ⟨it', a, ht, hit'⟩ := HTS.out.get hqt
   have hii : it' = it := by rw [hit] at hit'; exact (Option.some.inj hit').symm
   subst hii
   obtain ⟨tb, to_, hA, hc⟩ := HT.out.atI ht
   obtain ⟨⟨x0, x1, x2, x3, x4⟩, -⟩ := hc wr HBW.out
   rw [hpo] at x0 x1 x2 x3 x4
   have f0 : (d.post.label == d.post.label) = true := by simp
   have f1 : (d.post.frm == d.post.frm) = true := by simp
   have f2 : (d.post.dst == d.post.dst) = true := by simp
   have f3 : (d.post.cls == d.post.cls) = true := by simp
   have f4 : (d.post.acc == d.post.acc) = true := by simp
   rw [hA]
   clear hit hpo ht hit' hA hc
   have q2 : decide (ts.length <= q) = false := by simp; omega
   have q3 : decide ((ts.length : Int) <= (q : Int)) = false := by simp; omega
   clear hqt
   go_wp2_with fail
   go_quiet (fail)
   have HBN : Hid (Below V4.heap.size V4 (wr.drewN nq)) := below_drewN HBW.out nq
   go_wp2_with fail
   go_roundw
   case rel => exact ⟨k + 1, q + 1, HLT.out, Nat.succ_le_succ hqk, by go_num, by go_num, Lib.hid (by rw [HST.out, if_pos (by show (d.kind == 1) = true; exact E1.out), <- HQ.out]), HBN⟩
   case measure => have := HLT.out; simp [intOf]; omega
 case neg =>
 have k1 : ¬ (k : Int) < (ds.length : Int) := by omega
 have hqt : q = ts.length := by
  have h9 := HQ.out
  rw [List.take_of_length_le (by omega)] at h9
  have h8 := congrArg List.length HHS.out.posts
  rw [List.length_map, List.length_map] at h8
  rw [HTS.out.len, h8]
  exact h9
 subst hqt
 have eq : ((ts.length : Int) != (ts.length : Int)) = false := by simp
 go_wp2_with fail
 clear eq HQ k0 k1 q0 hk hqk hlt
 replace HL := Lib.hid (HL.out.below HBW.out)
 replace HT := Lib.hid (HT.out.below HBW.out)
 clear HBW
 generalize wr = V5 at HL HT ⊢
 go_wp2_with fail
 go_loopw [12, 13, 14, 15, 16, 17] (fun i _ _ _ _ _ wr => ∃ k : Nat, k <= ts.length /\ i = iV k /\ Hid (Below V5.heap.size V5 wr)) (fun i _ _ _ _ _ _ => ts.length + 1 - (intOf i).toNat)
 case atStart => exact ⟨0, Nat.zero_le _, rfl, Lib.hid (Below.refl _ _)⟩
 case round =>
 obtain ⟨k, hk, rfl, HBW⟩ := hrel
 have k0 : (0 : Int) <= (k : Int) := by omega
 by_cases hlt : k < ts.length
 case neg =>
  have k1 : ¬ (k : Int) < (ts.length : Int) := by omega
  have HBZ : Hid (Below w.heap.size w wr) := HL.out.bel.trans (HBW.out.mono HL.out.bel.size)
  go_wp2_with fail
  go_ret
  exact ⟨rfl, HBZ.out⟩
 have HLT := Lib.hid hlt
 have k1 : (k : Int) < (ts.length : Int) := by omega
 obtain ⟨it, a, ht, hit⟩ := HTS.out.get hlt
 obtain ⟨tb, to_, hA, hc⟩ := HT.out.atI ht
 have HC := Lib.hid hc
 have HI := Lib.hid (HF.out.item HR.out (List.mem_of_getElem? hit) a)
 have HTI := Lib.hid (HT.out.tr _ (List.mem_of_getElem? ht))
 have hst20 : it.stops.length <= 20 := HI.out.ok.len
 have hse := path_len HI.out.ok.path
 obtain ⟨p, hp⟩ : ∃ p : Nat, it.seals.length = p := ⟨_, rfl⟩
 have hp1 : p + 1 = it.stops.length := by omega
 have HP := Lib.hid hp1
 have HSE := Lib.hid hp
 obtain ⟨s, hs, hs0, hs1⟩ := path_first HI.out.ok
 obtain ⟨sl, hsl, sl2, sl3⟩ := path_lastAt HI.out.ok hp1
 obtain ⟨⟨-, x1, -, -, x4⟩, x5, -, -, -, x9⟩ := hc wr HBW.out
 rw [hp] at x9
 obtain ⟨-, sb, so, hsA, -, y0, yj⟩ := elem_at encSt_len (HTI.out.st.below HBW.out) hs (by omega)
 cases hsA
 have s0 : wr.cell? ⟨a.sB, 0, none⟩ = some (iV it.post.frm) := by have := y0 _ rfl; rw [hs0] at this; exact this
 have s1 : wr.cell? ⟨a.sB, 1, none⟩ = some (iV it.post.acc) := by have := yj 1 _ rfl; rw [hs1] at this; exact this
 clear y0 yj
 obtain ⟨-, sb, so, hsA, -, y0, yj⟩ := elem_at encSt_len (HTI.out.st.below HBW.out) hsl (by omega)
 cases hsA
 have l2 : wr.cell? ⟨a.sB, p * 4 + 2, none⟩ = some (iV (-1)) := by have := yj 2 _ rfl; rw [sl2, Nat.zero_add] at this; exact this
 have l3 : wr.cell? ⟨a.sB, p * 4 + 3, none⟩ = some (iV (-1)) := by have := yj 3 _ rfl; rw [sl3, Nat.zero_add] at this; exact this
 have hAE := Lib.hid hA
 rw [hA]
 clear y0 yj hs hsl hs0 hs1 sl2 sl3 hc ht hit hlt hA hse hp
 have c1 : decide ((it.stops.length : Int) < 1) = false := decide_eq_false (by omega)
 have c2 : decide ((20 : Int) < (it.stops.length : Int)) = false := decide_eq_false (by omega)
 have c3 : decide (it.stops.length < 1) = false := decide_eq_false (by omega)
 have c4 : decide (20 < it.stops.length) = false := decide_eq_false (by omega)
 have ep : IntKind.i64.wrap ((it.stops.length : Int) - 1) = (p : Int) := by rw [IntWalk.i64_in _ (by omega)]; omega
 have p0 : (0 : Int) <= (p : Int) := by omega
 have p1 : (p : Int) < (it.stops.length : Int) := by omega
 have p2 : (0 : Int) < (it.stops.length : Int) := by omega
 go_upto_region 21 with fail
 go_quiet (fail)
 have HBN : Hid (Below V5.heap.size V5 (wr.drewN nq)) := below_drewN HBW.out nq
 clear x1 x4 x5 x9 s0 s1 l2 l3 c1 c2 c3 c4 ep p0 p1 p2 HBW
 as_aux_lemma =>
 go_wp2_with fail
 go_loopw [14, 15, 16, 17] (fun m _ _ _ wr => ∃ q : Nat, q <= p /\ m = iV q /\ Hid (Below V5.heap.size V5 wr)) (fun m _ _ _ _ => it.stops.length + 1 - (intOf m).toNat)
 case atStart => exact ⟨0, Nat.zero_le _, rfl, HBN⟩
 case round =>
 obtain ⟨m, hm, rfl, HBW⟩ := hrel
 clear HBN
 have m0 : (0 : Int) <= (m : Int) := by omega
 have hp20 : (m : Int) + 1 <= 20 := by have := HP.out; omega
 by_cases hmp : m < p
 case neg =>
  have m1 : ¬ (m : Int) + 1 < (it.stops.length : Int) := by have := HP.out; omega
  have em : IntKind.i64.wrap ((m : Int) + 1) = (m : Int) + 1 := IntWalk.i64_in _ (by omega)
  go_wp2_with fail
  go_roundw
  case rel => exact ⟨k + 1, HLT.out, by go_num, HBW⟩
  case measure => have := HLT.out; simp [intOf]; omega
 have HMP := Lib.hid hmp
 obtain ⟨r, hr⟩ : ∃ r : Nat, r = m + 1 := ⟨_, rfl⟩
 have HRM := Lib.hid hr
 have hrl : r < it.stops.length := by have := HP.out; omega
 have em : IntKind.i64.wrap ((m : Int) + 1) = (r : Int) := by rw [IntWalk.i64_in _ (by omega)]; omega
 obtain ⟨s, hs⟩ : ∃ s, it.stops[m]? = some s := ⟨_, List.getElem?_eq_getElem (by omega)⟩
 obtain ⟨t, ht⟩ : ∃ t, it.stops[r]? = some t := ⟨_, List.getElem?_eq_getElem (by omega)⟩
 obtain ⟨e, he, H⟩ := path_get HI.out.ok.path hs (by rw [<- hr]; exact ht)
 have hG := HF.out.sound.1.good
 obtain ⟨q, hq⟩ := Int.eq_ofNat_of_zero_le H.line.1
 have hof := HI.out.ok.offs s (List.mem_of_getElem? hs)
 obtain ⟨o, ho⟩ := Int.eq_ofNat_of_zero_le hof.1
 have hql : q < n.lins.length := by have := H.line.2; omega
 have hol : o < n.offs.length := by have := hof.2.1; omega
 have hgl := hG.lin _ (List.mem_of_getElem? (linAt_get hql))
 have hgo := hG.off _ (List.mem_of_getElem? (offAt_get hol))
 have h1 := H.frm
 have h2 := H.ready
 have h3 := H.dep
 have h4 := H.off
 have h5 := H.arr
 have h6 := H.seal_
 have h7 := H.fix
 rw [hq, ho, Int.toNat_natCast] at h1
 rw [ho, Int.toNat_natCast] at h2
 rw [hq, Int.toNat_natCast] at h4 h5
 rw [hq] at h6 h7
 have HFIX := Lib.hid h7
 have hps : 1 <= (offAt n o).passes * (offAt n o).minutes /\ (offAt n o).passes * (offAt n o).minutes <= 960 := by
  obtain ⟨-, h, h', h'', h4'⟩ := hgo
  constructor
  ·have := Int.mul_le_mul h h'' (by omega) (by omega); omega
  ·have := Int.mul_le_mul h' h4' (by omega) (by omega); omega
 have hfew := hG.few
 have HLW := Lib.hid (HL.out.below HBW.out)
 obtain ⟨⟨-, -, -, n3, n4, -⟩, -⟩ := HLW.out.cells
 obtain ⟨-, x5, -, -, -, x9⟩ := HC.out wr HBW.out
 obtain ⟨-, lb, lo, hlA, -, -, yl⟩ := elem_at encLin_len HLW.out.nin.lins (linAt_get hql) (by omega)
 obtain ⟨-, ob, oo, hoA, -, -, yo⟩ := elem_at encOff_len HLW.out.nin.offs (offAt_get hol) (by omega)
 rw [hlA] at n4
 rw [hoA] at n3
 have l1 : wr.cell? ⟨lb, lo + q * 6 + 1, none⟩ = some (iV o) := by have := yl 1 _ rfl; rw [h1] at this; exact this
 have l2 : wr.cell? ⟨lb, lo + q * 6 + 2, none⟩ = some (iV (linAt n q).to) := yl 2 _ rfl
 have l4 : wr.cell? ⟨lb, lo + q * 6 + 4, none⟩ = some (iV (linAt n q).travel) := yl 4 _ rfl
 have o4 : wr.cell? ⟨ob, oo + o * 7 + 4, none⟩ = some (iV (offAt n o).passes) := yo 4 _ rfl
 have o5 : wr.cell? ⟨ob, oo + o * 7 + 5, none⟩ = some (iV (offAt n o).minutes) := yo 5 _ rfl
 obtain ⟨-, sb, so, hsA, -, y0, yj⟩ := elem_at encSt_len (HTI.out.st.below HBW.out) hs (by omega)
 cases hsA
 rw [Nat.zero_add] at y0
 have a0 : wr.cell? ⟨a.sB, m * 4, none⟩ = some (iV o) := by have := y0 _ rfl; rw [ho] at this; exact this
 have a1 : wr.cell? ⟨a.sB, m * 4 + 1, none⟩ = some (iV s.arrive) := by have := yj 1 _ rfl; rwa [Nat.zero_add] at this
 have a2 : wr.cell? ⟨a.sB, m * 4 + 2, none⟩ = some (iV s.depart) := by have := yj 2 _ rfl; rwa [Nat.zero_add] at this
 have a3 : wr.cell? ⟨a.sB, m * 4 + 3, none⟩ = some (iV q) := by have := yj 3 _ rfl; rw [Nat.zero_add, hq] at this; exact this
 clear y0 yj
 obtain ⟨-, sb, so, hsA, -, y0, yj⟩ := elem_at encSt_len (HTI.out.st.below HBW.out) ht (by omega)
 cases hsA
 rw [Nat.zero_add] at y0
 have b0 : wr.cell? ⟨a.sB, r * 4, none⟩ = some (iV (linAt n q).to) := by have := y0 _ rfl; rw [h4] at this; exact this
 have b1 : wr.cell? ⟨a.sB, r * 4 + 1, none⟩ = some (iV (s.depart + (linAt n q).travel)) := by have := yj 1 _ rfl; rw [Nat.zero_add, h5] at this; exact this
 clear y0 yj yl yo
 have hES : Rd wr a.eA (it.seals.map sV) := HTI.out.se.below HBW.out
 obtain ⟨eb, eo, hEA, -, hec⟩ := hES.get (i := m) (by rw [List.length_map]; have := HSE.out; omega)
 have e0 : wr.cell? ⟨eb, eo + m, none⟩ = some (sV (sealB q s.depart)) := by
  refine hec m _ ?_
  rw [List.getElem?_map, he, h6]
  rfl
 clear hES
 rw [hEA] at x9
 have HSS := Lib.hid (hs)
 have HQO : Hid (0 <= (q : Int) /\ q < n.lins.length /\ s.depart <= 2090000 /\ 0 <= s.depart) := ⟨by omega, hql, h3.2, h3.1⟩
 unfold readyR at h2
 clear h1 h4 h5 h6 h7 hs ht he H hG hq ho hlA hoA hEA hec hgo hmp hm
 generalize (linAt n q).to = tt at *
 generalize (linAt n q).travel = tv at *
 generalize (offAt n o).passes = ps at *
 generalize (offAt n o).minutes = mi at *
 generalize s.arrive = ar at *
 have m1 : (m : Int) + 1 < (it.stops.length : Int) := by omega
 have m2 : (m : Int) < (it.stops.length : Int) := by omega
 have m3 : (m : Int) < (it.seals.length : Int) := by have := HSE.out; have := HP.out; omega
 have r0 : (0 : Int) <= (r : Int) := by omega
 have r1 : (r : Int) < (it.stops.length : Int) := by omega
 have q0 : (0 : Int) <= (q : Int) := by omega
 have q1 : (q : Int) < (n.lins.length : Int) := by omega
 have o0 : (0 : Int) <= (o : Int) := by omega
 have o1 : (o : Int) < (n.offs.length : Int) := by omega
 have c1 : decide ((q : Int) < 0) = false := decide_eq_false (by omega)
 have c2 : decide ((n.lins.length : Int) <= (q : Int)) = false := decide_eq_false (by omega)
 have c3 : decide (n.lins.length <= q) = false := decide_eq_false (by omega)
 have c4 : decide (s.depart < ar + ps * mi) = false := decide_eq_false (by omega)
 have w1 : IntKind.i64.wrap (ps * mi) = ps * mi := IntWalk.i64_in _ (by omega)
 have w2 : IntKind.i64.wrap (ar + ps * mi) = ar + ps * mi := IntWalk.i64_in _ (by omega)
 have w3 : IntKind.i64.wrap (s.depart + tv) = s.depart + tv := IntWalk.i64_in _ (by omega)
 generalize hPM : ps * mi = pm at *
 clear hr
 go_upto_region 27 with fail
 go_quiet (fail)
 replace HBW : Hid (Below V5.heap.size V5 (wr.drewN nq)) := below_drewN HBW.out nq
 clear c1 c2 c3 c4 w1 w2 n3 o4 o5 o0 o1
 rw [<- World.cell?_drewN (n := nq)] at x9 n4 l1 l2 l4 a0 a1 a2 a3 b0 b1 e0
 generalize wr.drewN nq = W1 at *
 as_aux_lemma =>
 have HSL : Hid (∀ W, Calls Tryz.prog 14 #[iV q, iV s.depart] W fun e w' => e = .returned (sV (sealB q s.depart)) /\ w' = W) := fun W => seal_any _ _ W ⟨by omega, by have := HQO.out; omega⟩ ⟨HQO.out.2.2.2, by have := HQO.out; omega⟩
 have f1 : (sealB q s.depart != sealB q s.depart) = false := by simp
 go_upto_region 29 with fail
 go_quiet ((go_at_call 14; exact Calls.quiet_of_same (HSL.out _)))
 replace HBW : Hid (Below V5.heap.size V5 (W1.drewN nq)) := below_drewN HBW.out nq
 clear f1 HSL w3 x9 n4 l1 l2 l4 a0 a1 a3 b0 b1 e0 HLW
 rw [<- World.cell?_drewN (n := nq)] at a2
 generalize W1.drewN nq = W2 at *
 as_aux_lemma =>
 have HLW := Lib.hid (HL.out.below HBW.out)
 have HD0 : Hid (Below W2.heap.size W2 W2.drew) := b_drew (Below.refl _ _)
 have HA2 := Lib.hid a2
 have HSQ : Hid (∀ w', Below W2.heap.size W2 w' -> (w'.cell? ⟨N, 0, none⟩ = some (.slice n.calA n.cals.length n.calC) /\ w'.cell? ⟨N, 1, none⟩ = some (.slice n.namA n.names.length n.namC) /\ w'.cell? ⟨N, 2, none⟩ = some (.slice n.opA n.ops.length n.opC) /\ w'.cell? ⟨N, 3, none⟩ = some (.slice n.offA n.offs.length n.offC) /\ w'.cell? ⟨N, 4, none⟩ = some (.slice n.linA n.lins.length n.linC) /\ w'.cell? ⟨N, 5, none⟩ = some (.slice n.clsA n.clss.length n.clsC) /\ w'.cell? ⟨a.sB, m * 4 + 2, none⟩ = some (iV s.depart))) := fun w' hb => by
  obtain ⟨⟨x0, x1, x2, x3, x4, x5⟩, -⟩ := (HLW.out.below hb).cells
  exact ⟨x0, x1, x2, x3, x4, x5, cell_keepD hb HA2.out⟩
 have HCC : Hid (∀ W, Below W2.heap.size W2 W -> Calls Tryz.prog 15 #[netV n, iV q, iV s.depart] W fun e w' => e = .returned (.tuple #[iV (depT n q s.depart).1, iV (depT n q s.depart).2]) /\ Below W.heap.size W w') := fun W hb =>
  tdep_any n q s.depart W (HLW.out.nin.below hb) (HLW.out.kw.below hb) HF.out.sound HQO.out.1 (by have := HQO.out; omega)
 clear a2 q0 q1
 go_wp2_with fail
 go_region_held3 (fun w' => w'.cell? ⟨N, 0, none⟩ = some (.slice n.calA n.cals.length n.calC) /\ w'.cell? ⟨N, 1, none⟩ = some (.slice n.namA n.names.length n.namC) /\ w'.cell? ⟨N, 2, none⟩ = some (.slice n.opA n.ops.length n.opC) /\ w'.cell? ⟨N, 3, none⟩ = some (.slice n.offA n.offs.length n.offC) /\ w'.cell? ⟨N, 4, none⟩ = some (.slice n.linA n.lins.length n.linC) /\ w'.cell? ⟨N, 5, none⟩ = some (.slice n.clsA n.clss.length n.clsC) /\ w'.cell? ⟨a.sB, m * 4 + 2, none⟩ = some (iV s.depart)) (first | (with_reducible exact HSQ.out _ HD0.out) | (with_reducible exact HSQ.out _ HU1.out)) (first
   | (go_at_call 15; refine (HCC.out _ HD0.out).mono ?_; rintro e u1 ⟨rfl, hb1⟩; have HU1 := Lib.hid (bt HD0.out hb1); clear hb1)
   | fail)
 as_aux_lemma =>
 have a2 : u1.cell? ⟨a.sB, m * 4 + 2, none⟩ = some (iV s.depart) := cell_keepD HU1.out HA2.out
 replace HBW : Hid (Below V5.heap.size V5 u1) := HBW.out.trans (HU1.out.mono HBW.out.size)
 clear HSQ HCC HD0 HLW HA2 HU1
 by_cases hle : s.depart <= 2000000
 case pos =>
  have g1 : decide (s.depart <= 2000000) = true := decide_eq_true hle
  rw [HFIX.out hle]
  clear hle
  have f1 : ((0 : Int) != 0) = false := by simp
  have f2 : (s.depart != s.depart) = false := by simp
  go_wp2_with fail
  go_roundw
  case rel => exact ⟨r, by have := HRM.out; have := HMP.out; omega, rfl, HBW⟩
  case measure => have := HRM.out; have := HMP.out; have := HP.out; simp [intOf]; omega
 case neg =>
  have g1 : decide (s.depart <= 2000000) = false := decide_eq_false hle
  clear hle
  go_wp2_with fail
  go_roundw
  case rel => exact ⟨r, by have := HRM.out; have := HMP.out; omega, rfl, HBW⟩
  case measure => have := HRM.out; have := HMP.out; have := HP.out; simp [intOf]; omega
end
end Go.Proofs.YtpeaiphdkgifaaaGreatDoor
