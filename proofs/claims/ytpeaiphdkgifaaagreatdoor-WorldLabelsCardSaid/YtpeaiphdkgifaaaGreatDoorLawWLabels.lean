/-
  The walk over the law WorldLabels.
-/
import Derived.Test.YtpeaiphdkgifaaaGreatDoorWxWLabels
namespace Go.Proofs.YtpeaiphdkgifaaaGreatDoor
open Go.RowKit
set_option maxHeartbeats 20000000
set_option maxRecDepth 100000
section
attribute [local go_sem] Oper.semAt_some
def swB (ds : List Ded) : Bool := ds.any fun d => d.kind == 4
theorem swB_snoc (ds : List Ded) (d : Ded) : swB (ds ++ [d]) = (swB ds || d.kind == 4) := by unfold swB; simp
def cntL (t : Int) (lab : List UInt8) (l : List Itm) : Nat := ((accL t l).map (labT t)).count lab
theorem cntL_snoc (t : Int) (lab : List UInt8) (l : List Itm) (x : Itm) : cntL t lab (l ++ [x]) = cntL t lab l + if x.post.acc <= t /\ labT t x = lab then 1 else 0 := by
 unfold cntL accL
 rw [List.filter_append, List.map_append, List.count_append]
 congr 1
 by_cases h : x.post.acc <= t
 ·rw [List.filter_cons_of_pos (by simpa using h)]
  by_cases h2 : labT t x = lab
  ·rw [if_pos ⟨h, h2⟩]
   simp [h2]
  ·rw [if_neg (fun e => h2 e.2)]
   simp [h2]
 ·rw [List.filter_cons_of_neg (by simpa using h), if_neg (fun e => h e.1)]
  rfl
theorem cntL_le (t : Int) (lab : List UInt8) (l : List Itm) : cntL t lab l <= l.length := by
 unfold cntL accL
 refine Nat.le_trans List.count_le_length ?_
 rw [List.length_map]
 exact List.length_filter_le _ _
theorem wlabels_any (n : Net) (fr till : Int) (nx : List NsC) (nxA : Option Addr) (nxC : Nat) (D : Option Addr) (dl dc : Nat) (DA : Option Addr) (DC : Nat) (ds : List Ded) (time : Int) (w : World) (h : LawIn w n nx nxA DA DC ds) :
  Calls Tryz.prog 4 #[netV n, planV fr till nxA nx.length nxC D dl dc, .slice DA ds.length DC, iV time] w fun e w' => e = .returned (.bool true) /\ Below w.heap.size w w' := by
 have HIN := Lib.hid h
 have HL := Lib.hid (LwW.start (fr := fr) (till := till) (nxC := nxC) (D := D) (dl := dl) (dc := dc) h)
 clear h
 go_enter Tryz.func4, Tryz.ntmps4
 go_upto_region 1 with fail
 change Code.wp _ _ _ _ (allocs w (runObjs n fr till nxA nx.length nxC D dl dc))
 generalize allocs w (runObjs n fr till nxA nx.length nxC D dl dc) = V1 at HL ⊢
 generalize hN : w.heap.size = N at HL ⊢
 rw [<- hN] at HL
 have HL : Hid (LwW w n fr till nx nxA nxC D dl dc DA ds N (N + 1) V1) := by have h9 := HL.out; rw [hN] at h9; exact h9
 generalize hP : N + 1 = P at HL ⊢
 clear hN hP
 go_wp2_with fail
 refine (headW_any V1 HL.out.kw HL.out.pw).mono ?_
 rintro e V2 ⟨rfl, hb⟩
 replace HL := Lib.hid (HL.out.below hb)
 clear hb
 obtain ⟨⟨n0, n1, n2, n3, n4, n5⟩, p0, p1, p2, p3⟩ := HL.out.cells
 go_wp2_with fail
 have hcall := HL.out.fine (DC := DC) (fr := fr) (till := till) HIN.out
 have HCALL := Lib.hid hcall
 clear hcall
 with_reducible refine HCALL.out.mono ?_
 rintro e V3 ⟨⟨b, rfl, hf⟩, hb⟩
 clear HCALL
 clear n0 n1 n2 n3 n4 n5 p0 p1 p2 p3
 replace HL := Lib.hid (HL.out.below hb)
 clear hb
 have HFF := Lib.hid hf
 clear hf
 cases b
 case false =>
  go_wp2_with fail
  go_ret
  exact ⟨rfl, HL.out.bel⟩
 have HF := Lib.hid (HFF.out rfl)
 clear HFF
 obtain ⟨⟨n0, n1, n2, n3, n4, n5⟩, p0, p1, p2, p3⟩ := HL.out.cells
 go_wp2_with fail
 have hcall := HL.out.run HF.out.sound HF.out.form HF.out.six (ds' := ds) rfl HF.out.ok (by have := HF.out.deds; omega) DA DC HL.out.rd
 have HCALL := Lib.hid hcall
 clear hcall
 with_reducible refine HCALL.out.mono ?_
 rintro e V4 ⟨hb, hR⟩
 clear HCALL
 clear n0 n1 n2 n3 n4 n5 p0 p1 p2 p3
 replace HL := Lib.hid (HL.out.below hb)
 clear hb
 rcases hR with ⟨hr, rfl⟩ | ⟨h, ts, A, c, hr, hts, rfl, hT⟩
 case inl =>
  clear hr
  go_wp2_with fail
  go_ret
  exact ⟨rfl, HL.out.bel⟩
 have HR := Lib.hid hr
 have HTS := Lib.hid hts
 have HT := Lib.hid hT
 have hl16 : ts.length <= 16 := by rw [hts.len]; exact HF.out.few16 hr
 have hd16 : ds.length <= 16 := HF.out.deds
 clear hr hts hT
 go_wp2_with fail
 go_loopw [12, 13] (fun s i wr => ∃ (k : Nat) (b : Bool), k <= ds.length /\ i = iV k /\ s = .bool b /\ Hid (b = swB (ds.take k)) /\ Hid (Below V4.heap.size V4 wr)) (fun _ i _ => ds.length + 1 - (intOf i).toNat)
 case atStart => exact ⟨0, false, Nat.zero_le _, rfl, rfl, Lib.hid rfl, Lib.hid (Below.refl _ _)⟩
 case round =>
 obtain ⟨k, b, hk, rfl, rfl, HSB, HBW⟩ := hrel
 have k0 : (0 : Int) <= (k : Int) := by omega
 by_cases hlt : k < ds.length
 case pos =>
  have HLT := Lib.hid hlt
  have k1 : (k : Int) < (ds.length : Int) := by omega
  obtain ⟨d, hd⟩ : ∃ d, ds[k]? = some d := ⟨_, List.getElem?_eq_getElem hlt⟩
  obtain ⟨-, db, dof, hDA, -, y0, -⟩ := elem_at encD_len (HL.out.rd.below HBW.out) hd (by omega)
  have z0 : wr.cell? ⟨db, dof + k * 10, none⟩ = some (iV d.kind) := y0 _ rfl
  have HSN : Hid (swB (ds.take (k + 1)) = (swB (ds.take k) || d.kind == 4)) := by
   show _ = _
   rw [List.take_add_one, hd]
   exact swB_snoc _ _
  rw [hDA]
  clear y0 hd hDA hlt
  cases b with
  | true =>
   go_wp2_with fail
   go_roundw
   case rel => exact ⟨k + 1, true, HLT.out, by go_num, rfl, Lib.hid (by rw [HSN.out, <- HSB.out]; rfl), HBW⟩
   case measure => have := HLT.out; simp [intOf]; omega
  | false =>
   cases h4 : (d.kind == 4)
   all_goals
    have H4 := Lib.hid h4
    go_wp2_with fail
    go_roundw
    case rel => exact ⟨k + 1, _, HLT.out, by go_num, rfl, Lib.hid (by rw [HSN.out, <- HSB.out, H4.out]; rfl), HBW⟩
    case measure => have := HLT.out; simp [intOf]; omega
 case neg =>
 have k1 : ¬ (k : Int) < (ds.length : Int) := by omega
 have HSW : Hid (b = swB ds) := by
  have h9 := HSB.out
  rw [List.take_of_length_le (by omega)] at h9
  exact h9
 go_wp2_with fail
 clear HSB k0 k1 hlt hk
 replace HL := Lib.hid (HL.out.below HBW.out)
 replace HT := Lib.hid (HT.out.below HBW.out)
 clear HBW
 generalize wr = V5 at HL HT ⊢
 go_loopw [14, 15, 16] (fun i _ _ wr => ∃ k : Nat, k <= ts.length /\ i = iV k /\ Hid (Below V5.heap.size V5 wr)) (fun i _ _ _ => ts.length + 1 - (intOf i).toNat)
 case atStart => exact ⟨0, Nat.zero_le _, rfl, Lib.hid (Below.refl _ _)⟩
 case round =>
 obtain ⟨k, hk, rfl, HBW⟩ := hrel
 have k0 : (0 : Int) <= (k : Int) := by omega
 by_cases hlt : k < ts.length
 case neg =>
  have k1 : ¬ (k : Int) < (ts.length : Int) := by omega
  go_wp2_with fail
  go_ret
  exact ⟨rfl, HL.out.bel.trans (HBW.out.mono HL.out.bel.size)⟩
 have HLT := Lib.hid hlt
 have k1 : (k : Int) < (ts.length : Int) := by omega
 obtain ⟨it, a, ht, hit⟩ := HTS.out.get hlt
 obtain ⟨tb, to_, hA, hc⟩ := HT.out.atI ht
 have HC := Lib.hid hc
 obtain ⟨⟨x0, -, -, -, x4⟩, -⟩ := hc wr HBW.out
 have HI := Lib.hid (HF.out.item HR.out (List.mem_of_getElem? hit) a)
 have HTI := Lib.hid (And.intro (HT.out.tr _ (List.mem_of_getElem? ht)) (List.mem_of_getElem? hit))
 clear hc ht hit hlt
 by_cases hacc : time < it.post.acc
 case pos =>
  rw [hA]
  clear hA x0
  go_wp2_with fail
  go_roundw
  case rel => exact ⟨k + 1, HLT.out, by go_num, HBW⟩
  case measure => have := HLT.out; simp [intOf]; omega
 have HAC : Hid (it.post.acc <= time) := by show it.post.acc <= time; omega
 have HCN : Hid (cntL time it.post.label h.items = 1) := labels_once HF.out.sound.1.good HF.out.form HR.out HF.out.ok time HTI.out.2 HAC.out
 have hA2 := hA
 rw [hA]
 have HAE := Lib.hid hA2
 clear hA hA2
 go_wp2_with fail
 clear x0 x4
 go_loopw [15, 16] (fun m j wr => ∃ (q : Nat), q <= ts.length /\ j = iV q /\ m = iV (cntL time it.post.label (h.items.take q)) /\ Hid (Below V5.heap.size V5 wr)) (fun _ j _ => ts.length + 1 - (intOf j).toNat)
 case atStart => exact ⟨0, Nat.zero_le _, rfl, rfl, HBW⟩
 case round =>
 obtain ⟨q, hq, rfl, rfl, HBQ⟩ := hrel
 clear HBW
 have q0 : (0 : Int) <= (q : Int) := by omega
 have hcl := cntL_le time it.post.label (h.items.take q)
 have hcl2 : (h.items.take q).length <= q := List.length_take_le _ _
 by_cases hqt : q < ts.length
 case neg =>
  have q1 : ¬ (q : Int) < (ts.length : Int) := by omega
  have hcq : cntL time it.post.label (h.items.take q) = 1 := by
   rw [List.take_of_length_le (by have := HTS.out.len; omega)]
   exact HCN.out
  rw [hcq]
  clear hcl hcl2 hcq hqt
  have hc2 := HC.out wr
  cases b with
  | true =>
   go_wp2_with fail
   go_quiet (fail)
   have HBN : Hid (Below V5.heap.size V5 (wr.drewN nq)) := below_drewN HBQ.out nq
   go_wp2_with fail
   go_roundw
   case rel => exact ⟨k + 1, HLT.out, by go_num, HBN⟩
   case measure => have := HLT.out; simp [intOf]; omega
  | false =>
   have hlo := labs_one HF.out.sound.1.good HF.out.form HR.out HF.out.ok (fun d hd e => by
    have h9 := HSW.out
    unfold swB at h9
    have h8 := List.any_eq_false.1 h9.symm d hd
    simp [e] at h8) it HTI.out.2
   have hlt2 : labAt time it.since it.labs [] = it.post.label := by
    rw [hlo.1, hlo.2]
    show labAt time [] [] (if it.post.acc <= time then it.post.label else []) = _
    rw [if_pos HAC.out]
    rfl
   have HLB := Lib.hid hlt2
   clear hlo hlt2 hc2
   have HD0 : Hid (Below wr.heap.size wr wr.drew) := b_drew (Below.refl _ _)
   have HCC : Hid (∀ W, Below wr.heap.size wr W -> Calls Tryz.prog 16 #[trkV (trkOf it a), iV time] W fun e w' => e = .returned (sV it.post.label) /\ Below W.heap.size W w') := fun W hb => by
    have h9 := labelAt_any (trkOf it a) time W (HTI.out.1.below (HBQ.out.trans (hb.mono HBQ.out.size))) HI.out.short HI.out.ok.labs.1
    rw [show labAt time (trkOf it a).since (trkOf it a).labs [] = it.post.label from HLB.out] at h9
    exact h9
   have HSQ : Hid (∀ w', Below wr.heap.size wr w' -> (w'.cell? ⟨tb, to_ + k * 10, none⟩ = some (sV it.post.label) /\ w'.cell? ⟨tb, to_ + k * 10 + 1, none⟩ = some (iV it.post.frm) /\ w'.cell? ⟨tb, to_ + k * 10 + 2, none⟩ = some (iV it.post.dst) /\ w'.cell? ⟨tb, to_ + k * 10 + 3, none⟩ = some (iV it.post.cls) /\ w'.cell? ⟨tb, to_ + k * 10 + 4, none⟩ = some (iV it.post.acc) /\ w'.cell? ⟨tb, to_ + k * 10 + 5, none⟩ = some (.slice (some ⟨a.sB, 0, none⟩) it.stops.length a.sC) /\ w'.cell? ⟨tb, to_ + k * 10 + 6, none⟩ = some (.bool it.lost) /\ w'.cell? ⟨tb, to_ + k * 10 + 7, none⟩ = some (.slice (some ⟨a.nB, 0, none⟩) it.since.length a.nC) /\ w'.cell? ⟨tb, to_ + k * 10 + 8, none⟩ = some (.slice (some ⟨a.lB, 0, none⟩) it.labs.length a.lC) /\ w'.cell? ⟨tb, to_ + k * 10 + 9, none⟩ = some (.slice a.eA it.seals.length a.eC))) := fun w' hb => by
    obtain ⟨⟨x0, x1, x2, x3, x4⟩, x5, x6, x7, x8, x9⟩ := HC.out w' (HBQ.out.trans (hb.mono HBQ.out.size))
    exact ⟨x0, x1, x2, x3, x4, x5, x6, x7, x8, x9⟩
   have ee : (it.post.label != it.post.label) = false := by simp
   go_wp2_with fail
   go_region_held3 (fun w' => w'.cell? ⟨tb, to_ + k * 10, none⟩ = some (sV it.post.label) /\ w'.cell? ⟨tb, to_ + k * 10 + 1, none⟩ = some (iV it.post.frm) /\ w'.cell? ⟨tb, to_ + k * 10 + 2, none⟩ = some (iV it.post.dst) /\ w'.cell? ⟨tb, to_ + k * 10 + 3, none⟩ = some (iV it.post.cls) /\ w'.cell? ⟨tb, to_ + k * 10 + 4, none⟩ = some (iV it.post.acc) /\ w'.cell? ⟨tb, to_ + k * 10 + 5, none⟩ = some (.slice (some ⟨a.sB, 0, none⟩) it.stops.length a.sC) /\ w'.cell? ⟨tb, to_ + k * 10 + 6, none⟩ = some (.bool it.lost) /\ w'.cell? ⟨tb, to_ + k * 10 + 7, none⟩ = some (.slice (some ⟨a.nB, 0, none⟩) it.since.length a.nC) /\ w'.cell? ⟨tb, to_ + k * 10 + 8, none⟩ = some (.slice (some ⟨a.lB, 0, none⟩) it.labs.length a.lC) /\ w'.cell? ⟨tb, to_ + k * 10 + 9, none⟩ = some (.slice a.eA it.seals.length a.eC)) (first | (with_reducible exact HSQ.out _ HD0.out) | (with_reducible exact HSQ.out _ HU1.out)) (first
     | (go_at_call 16; refine (HCC.out _ HD0.out).mono ?_; rintro e u1 ⟨rfl, hb1⟩; have HU1 := Lib.hid (bt HD0.out hb1); clear hb1)
     | fail)
   have HBN : Hid (Below V5.heap.size V5 u1) := HBQ.out.trans (HU1.out.mono HBQ.out.size)
   go_wp2_with fail
   go_roundw
   case rel => exact ⟨k + 1, HLT.out, by go_num, HBN⟩
   case measure => have := HLT.out; simp [intOf]; omega
 have HQT := Lib.hid hqt
 have q1 : (q : Int) < (ts.length : Int) := by omega
 obtain ⟨jt, b', hu, hjt⟩ := HTS.out.get hqt
 obtain ⟨tb2, to2, hA2, hc2⟩ := HT.out.atI hu
 rw [HAE.out] at hA2
 cases hA2
 have HC2 := Lib.hid hc2
 have HJ := Lib.hid (And.intro (HT.out.tr _ (List.mem_of_getElem? hu)) (HF.out.item HR.out (List.mem_of_getElem? hjt) b'))
 have HST : Hid (cntL time it.post.label (h.items.take (q + 1)) = cntL time it.post.label (h.items.take q) + if jt.post.acc <= time /\ labT time jt = it.post.label then 1 else 0) := by
  show _ = _
  rw [List.take_add_one, hjt]
  exact cntL_snoc _ _ _ _
 clear hu hjt hc2
 by_cases hja : jt.post.acc <= time
 case neg =>
  have HJA := Lib.hid hja
  have e9 : decide (jt.post.acc <= time) = false := by simpa using hja
  clear hja
  have x4 := (HC2.out wr HBQ.out).1.2.2.2.2
  go_wp2_with fail
  go_quiet (fail)
  have HBN : Hid (Below V5.heap.size V5 (wr.drewN nq)) := below_drewN HBQ.out nq
  go_wp2_with fail
  go_roundw
  case rel => exact ⟨q + 1, HQT.out, by go_num, by rw [HST.out, if_neg (fun e => by have h9 := HJA.out; have h8 := e.1; omega)]; rfl, HBN⟩
  case measure => have := HQT.out; simp [intOf]; omega
 have HD0 : Hid (Below wr.heap.size wr wr.drew) := b_drew (Below.refl _ _)
 have HCC : Hid (∀ W, Below wr.heap.size wr W -> Calls Tryz.prog 16 #[trkV (trkOf jt b'), iV time] W fun e w' => e = .returned (sV (labT time jt)) /\ Below W.heap.size W w') := fun W hb =>
  labelAt_any (trkOf jt b') time W (HJ.out.1.below (HBQ.out.trans (hb.mono HBQ.out.size))) HJ.out.2.short HJ.out.2.ok.labs.1
 have HSQ : Hid (∀ w', Below wr.heap.size wr w' -> (w'.cell? ⟨tb, to_ + q * 10, none⟩ = some (sV jt.post.label) /\ w'.cell? ⟨tb, to_ + q * 10 + 1, none⟩ = some (iV jt.post.frm) /\ w'.cell? ⟨tb, to_ + q * 10 + 2, none⟩ = some (iV jt.post.dst) /\ w'.cell? ⟨tb, to_ + q * 10 + 3, none⟩ = some (iV jt.post.cls) /\ w'.cell? ⟨tb, to_ + q * 10 + 4, none⟩ = some (iV jt.post.acc) /\ w'.cell? ⟨tb, to_ + q * 10 + 5, none⟩ = some (.slice (some ⟨b'.sB, 0, none⟩) jt.stops.length b'.sC) /\ w'.cell? ⟨tb, to_ + q * 10 + 6, none⟩ = some (.bool jt.lost) /\ w'.cell? ⟨tb, to_ + q * 10 + 7, none⟩ = some (.slice (some ⟨b'.nB, 0, none⟩) jt.since.length b'.nC) /\ w'.cell? ⟨tb, to_ + q * 10 + 8, none⟩ = some (.slice (some ⟨b'.lB, 0, none⟩) jt.labs.length b'.lC) /\ w'.cell? ⟨tb, to_ + q * 10 + 9, none⟩ = some (.slice b'.eA jt.seals.length b'.eC) /\ w'.cell? ⟨tb, to_ + k * 10, none⟩ = some (sV it.post.label))) := fun w' hb => by
  obtain ⟨⟨x0, x1, x2, x3, x4⟩, x5, x6, x7, x8, x9⟩ := HC2.out w' (HBQ.out.trans (hb.mono HBQ.out.size))
  obtain ⟨⟨y0, -⟩, -⟩ := HC.out w' (HBQ.out.trans (hb.mono HBQ.out.size))
  exact ⟨x0, x1, x2, x3, x4, x5, x6, x7, x8, x9, y0⟩
 have HJA := Lib.hid hja
 have e9 : decide (jt.post.acc <= time) = true := by simpa using hja
 clear hja
 generalize hlj : labT time jt = lj at HCC HST
 clear hlj
 go_wp2_with fail
 cases hee : (lj == it.post.label)
 all_goals
  have HEE := Lib.hid hee
  go_region_held3 (fun w' => w'.cell? ⟨tb, to_ + q * 10, none⟩ = some (sV jt.post.label) /\ w'.cell? ⟨tb, to_ + q * 10 + 1, none⟩ = some (iV jt.post.frm) /\ w'.cell? ⟨tb, to_ + q * 10 + 2, none⟩ = some (iV jt.post.dst) /\ w'.cell? ⟨tb, to_ + q * 10 + 3, none⟩ = some (iV jt.post.cls) /\ w'.cell? ⟨tb, to_ + q * 10 + 4, none⟩ = some (iV jt.post.acc) /\ w'.cell? ⟨tb, to_ + q * 10 + 5, none⟩ = some (.slice (some ⟨b'.sB, 0, none⟩) jt.stops.length b'.sC) /\ w'.cell? ⟨tb, to_ + q * 10 + 6, none⟩ = some (.bool jt.lost) /\ w'.cell? ⟨tb, to_ + q * 10 + 7, none⟩ = some (.slice (some ⟨b'.nB, 0, none⟩) jt.since.length b'.nC) /\ w'.cell? ⟨tb, to_ + q * 10 + 8, none⟩ = some (.slice (some ⟨b'.lB, 0, none⟩) jt.labs.length b'.lC) /\ w'.cell? ⟨tb, to_ + q * 10 + 9, none⟩ = some (.slice b'.eA jt.seals.length b'.eC) /\ w'.cell? ⟨tb, to_ + k * 10, none⟩ = some (sV it.post.label)) (first | (with_reducible exact HSQ.out _ HD0.out) | (with_reducible exact HSQ.out _ HU1.out)) (first
    | (go_at_call 16; refine (HCC.out _ HD0.out).mono ?_; rintro e u1 ⟨rfl, hb1⟩; have HU1 := Lib.hid (bt HD0.out hb1); clear hb1)
    | fail)
  have HBN : Hid (Below V5.heap.size V5 u1) := HBQ.out.trans (HU1.out.mono HBQ.out.size)
  go_wp2_with fail
  go_roundw
  case rel => exact ⟨q + 1, HQT.out, by go_num, by rw [HST.out]; first | (rw [if_neg (fun e => by have h9 := HEE.out; rw [e.2] at h9; simp at h9)]; rfl) | (rw [if_pos ⟨HJA.out, by simpa using HEE.out⟩]; go_num), HBN⟩
  case measure => have := HQT.out; simp [intOf]; omega
end
end Go.Proofs.YtpeaiphdkgifaaaGreatDoor
