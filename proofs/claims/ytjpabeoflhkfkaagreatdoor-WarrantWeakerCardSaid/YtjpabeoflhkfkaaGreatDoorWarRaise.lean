/-
  The walk over raised: a table of promises in blocks of its own, all numbers other than -1 greater by a number.
-/
import Derived.Test.YtjpabeoflhkfkaaGreatDoorWarRows
import Derived.Test.YtjpabeoflhkfkaaGreatDoorWarGrow
import Derived.Test.YtjpabeoflhkfkaaGreatDoorWarHdr
namespace Go.Proofs.YtjpabeoflhkfkaaGreatDoor
open Go.RowKit
attribute [local go_sem] Oper.semAt_some

theorem intsInf : (Tryz.prog.info? 25).map (fun i => (i.zero, i.size, i.bytes)) = some (some (.slice none 0 0), 1, 24) := by kernel_rfl
theorem rowsInf : (Tryz.prog.info? 37).map (fun i => (i.zero, i.size, i.bytes)) = some (some (.slice none 0 0), 1, 24) := by kernel_rfl
/-- A list of rows of numbers that grows, each row in a block of its own. -/
structure RwB (wb wr : World) (out : Value) (l : List NsC) : Prop where
  own : wr.ownsRow wb.heap.size 25 1 out l.length (l.map slI)
  row : ∀ r ∈ l, RowB wr wb.heap.size r
  up : Incr l
  bel : Below wb.heap.size wb wr
/-- A list of tables that grows. -/
structure DyB (wb wr : World) (out : Value) (l : List DaC) : Prop where
  own : wr.ownsRow wb.heap.size 37 1 out l.length (l.map slD)
  day : ∀ x ∈ l, DayB wr wb.heap.size x
  up : Incr (l.flatMap (·.rows))
  bel : Below wb.heap.size wb wr
theorem RwB.below {wb wr w' : World} {out : Value} {l : List NsC} (h : RwB wb wr out l) (hb : Below wr.heap.size wr w') : RwB wb w' out l :=
  ⟨own_below h.own hb, fun r hr => (h.row r hr).below hb, h.up, bt h.bel hb⟩
theorem DyB.below {wb wr w' : World} {out : Value} {l : List DaC} (h : DyB wb wr out l) (hb : Below wr.heap.size wr w') : DyB wb w' out l :=
  ⟨own_below h.own hb, fun r hr => (h.day r hr).below hb, h.up, bt h.bel hb⟩
theorem RwB.slice {wb wr : World} {out : Value} {l : List NsC} (h : RwB wb wr out l) : ∃ A c, out = .slice A l.length c := own_slice h.own
theorem DyB.slice {wb wr : World} {out : Value} {l : List DaC} (h : DyB wb wr out l) : ∃ A c, out = .slice A l.length c := own_slice h.own
theorem RwB.app {wb wo wr w3 : World} {ua : Option Addr} {uc g cap : Nat} {l : List NsC} {r : NsC} (h : RwB wb wr (.slice ua l.length uc) l) (hr : RowB wr wo.heap.size r) (hlt : ∀ q ∈ l, blk q.A < wo.heap.size) (hbo : wb.heap.size ≤ wo.heap.size)
    (own1 : w3.ownsRow wb.heap.size 25 1 (.slice (some ⟨g, 0, none⟩) (l.length + 1) cap) (l.length + 1) (l.map slI ++ [slI r]))
    (hgrow : (wr.alloc (.cells #[slI r] 25)).grownBy w3 (Value.slice ua l.length uc).ownBlock) : RwB wb w3 (.slice (some ⟨g, 0, none⟩) (l.length + 1) cap) (l ++ [r]) := by
  have hs := h.bel.size
  have hB := (ba wr (.cells #[slI r] 25))
  have hnot := own_not (own_below h.own hB) (t := 3) (by decide)
  refine ⟨by simpa using own1, fun q hq => ?_, incr_app h.up (List.pairwise_singleton ..) hlt (fun q hq => by simp at hq; subst hq; exact hr.lt.1), (h.bel.trans (hB.mono hs)).grown hgrow (by simp; omega) (fun q e => by
      have e' : Value.ownBlock (.slice ua l.length uc) = some q := e
      exact own_ge h.own e')⟩
  rcases List.mem_append.1 hq with hq | hq
  · exact ((h.row q hq).below hB).grown hgrow hnot
  · simp at hq
    subst hq
    exact ((hr.below hB).grown hgrow hnot).mono hbo
theorem DyB.app {wb wo wr w3 : World} {ua : Option Addr} {uc g cap : Nat} {l : List DaC} {x : DaC} (h : DyB wb wr (.slice ua l.length uc) l) (hr : DayB wr wo.heap.size x) (hu : Incr x.rows) (hlt : ∀ q ∈ l.flatMap (·.rows), blk q.A < wo.heap.size) (hbo : wb.heap.size ≤ wo.heap.size)
    (own1 : w3.ownsRow wb.heap.size 37 1 (.slice (some ⟨g, 0, none⟩) (l.length + 1) cap) (l.length + 1) (l.map slD ++ [slD x]))
    (hgrow : (wr.alloc (.cells #[slD x] 37)).grownBy w3 (Value.slice ua l.length uc).ownBlock) : DyB wb w3 (.slice (some ⟨g, 0, none⟩) (l.length + 1) cap) (l ++ [x]) := by
  have hs := h.bel.size
  have hB := (ba wr (.cells #[slD x] 37))
  have hnot : ∀ j cs, (Value.slice ua l.length uc).ownBlock = some j → (wr.alloc (.cells #[slD x] 37)).heap[j]? ≠ some (.cells cs 3 (0, 0)) ∧ (wr.alloc (.cells #[slD x] 37)).heap[j]? ≠ some (.cells cs 25 (0, 0)) := fun j cs e =>
    ⟨own_not (own_below h.own hB) (t := 3) (by decide) j cs e, own_not (own_below h.own hB) (t := 25) (by decide) j cs e⟩
  refine ⟨by simpa using own1, fun q hq => ?_, ?_, (h.bel.trans (hB.mono hs)).grown hgrow (by simp; omega) (fun q e => by
      have e' : Value.ownBlock (.slice ua l.length uc) = some q := e
      exact own_ge h.own e')⟩
  · rcases List.mem_append.1 hq with hq | hq
    · exact ((h.day q hq).below hB).grown hgrow hnot
    · simp at hq
      subst hq
      exact ((hr.below hB).grown hgrow hnot).mono hbo
  · rw [List.flatMap_append, List.flatMap_cons, List.flatMap_nil, List.append_nil]
    exact incr_app h.up hu hlt (fun q hq => (hr.2 q hq).lt.1)
theorem DyB.tab {wb wr : World} {out : Value} {l : List DaC} (h : DyB wb wr out l) (hl : 0 < l.length) : ∃ G c, out = .slice (some ⟨G, 0, none⟩) l.length c ∧ TabB wr wb.heap.size G l := by
  obtain ⟨g, cap, rfl, h1, -, h3, cs, h4⟩ := own_rd h.own hl
  exact ⟨g, cap, rfl, ⟨cs, h4⟩, h1, h3, h.day, h.up⟩
theorem rz_take {by_ : Int} {l m : List Int} {d : Nat} {y : Int} (hy : l[d]? = some y) (h : m = (l.take d).map (rz by_)) : m ++ [rz by_ y] = (l.take (d + 1)).map (rz by_) := by
  rw [take_one hy, h]
  simp
theorem rows_take {f : Int → Int} {l m : List NsC} {o : Nat} {r q : NsC} (hr : l[o]? = some r) (h : m.map (·.ns) = ((l.take o).map (·.ns)).map (·.map f)) (hq : q.ns = r.ns.map f) : (m ++ [q]).map (·.ns) = ((l.take (o + 1)).map (·.ns)).map (·.map f) := by
  rw [take_one hr, List.map_append, h]
  simp [hq]
theorem days_take {f : Int → Int} {l m : List DaC} {k : Nat} {x q : DaC} (hx : l[k]? = some x) (h : numsD m = (numsD (l.take k)).map (·.map (·.map f))) (hq : q.rows.map (·.ns) = (x.rows.map (·.ns)).map (·.map f)) : numsD (m ++ [q]) = (numsD (l.take (k + 1))).map (·.map (·.map f)) := by
  unfold numsD at h ⊢
  rw [take_one hx, List.map_append, h]
  simp [hq]
/-- What raised leaves. -/
def RaisedR (w : World) (ds : List DaC) (by_ : Int) (e : Ending) (w' : World) : Prop :=
  ∃ G c es, e = .returned (.slice (some ⟨G, 0, none⟩) (List.length es) c) ∧ TabB w' w.heap.size G es ∧ numsD es = (numsD ds).map (·.map (·.map (rz by_))) ∧ Below w.heap.size w w'
set_option maxHeartbeats 8000000 in
set_option maxRecDepth 100000 in
theorem raisedT_any (D : Option Addr) (dc : Nat) (ds : List DaC) (by_ : Int) (w : World) (hD : DTab0 w D ds) (h0 : 0 < ds.length) (h4 : ds.length ≤ 4) (hr : ∀ x ∈ ds, 0 < x.rows.length ∧ x.rows.length ≤ 12 ∧ ∀ r ∈ x.rows, 0 < r.ns.length ∧ r.ns.length ≤ 12 ∧ ∀ y ∈ r.ns, -1 ≤ y ∧ y ≤ 65518) (b1 : 0 ≤ by_) (b2 : by_ ≤ 256) :
    Calls Tryz.prog 23 #[.slice D ds.length dc, iV by_] w (RaisedR w ds by_) := by
  obtain ⟨i0, hi0, hz0, hz1, hz2⟩ := info_parts intWInf
  obtain ⟨i1, hi1, hy0, hy1, hy2⟩ := info_parts intsInf
  obtain ⟨i2, hi2, hx0, hx1, hx2⟩ := info_parts rowsInf
  have HD := Lib.hid hD
  have HR := Lib.hid hr
  have HP := Lib.hid h0
  clear hD hr h0
  go_enter Tryz.func23, Tryz.ntmps23
  go_wp2_with fail
  go_loopw [5, 6, 7, 8, 9, 10] (fun out i _ _ _ _ wr => ∃ k : Nat, k ≤ ds.length ∧ i = iV k ∧ ∃ es : List DaC, es.length = k ∧ numsD es = (numsD (ds.take k)).map (·.map (·.map (rz by_))) ∧ DyB w wr out es) (fun _ i _ _ _ _ _ => ds.length + 1 - (intOf i).toNat)
  case atStart => exact ⟨0, by omega, rfl, [], rfl, by simp [numsD], ⟨⟨rfl, .inl ⟨rfl, rfl⟩⟩, fun x hx => (by cases hx), List.Pairwise.nil, Below.refl _ _⟩⟩
  case round =>
  obtain ⟨k, hk, rfl, es, hel, hnum, hi⟩ := hrel
  have HI := Lib.hid hi
  have HNU := Lib.hid hnum
  have HEL := Lib.hid hel
  clear hi hnum hel
  have k0 : (0 : Int) ≤ (k : Int) := by omega
  by_cases hkt : k < ds.length
  case neg =>
    have k1 : ¬ (k : Int) < (ds.length : Int) := by omega
    obtain ⟨G, gc, rfl, hG⟩ := HI.out.tab (by have := HEL.out; have := HP.out; omega)
    have HG := Lib.hid hG
    clear hG
    go_wp2_with fail
    go_ret
    refine ⟨G, gc, es, rfl, HG.out, ?_, HI.out.bel⟩
    have := HNU.out
    rwa [List.take_of_length_le (by omega)] at this
  have HKT := Lib.hid hkt
  have k1 : (k : Int) < (ds.length : Int) := by omega
  obtain ⟨x, hx⟩ : ∃ x, ds[k]? = some x := ⟨_, List.getElem?_eq_getElem hkt⟩
  have HXE := Lib.hid hx
  obtain ⟨hxl, hxm, hxr⟩ := HR.out x (List.mem_of_getElem? hx)
  have HXR := Lib.hid hxr
  have HXP := Lib.hid hxl
  have HTX := Lib.hid (HD.out.row x (List.mem_of_getElem? hx)).1
  clear hx hxr hxl
  have HR0 : Hid (RwB wr wr (.slice none 0 0) []) := ⟨⟨rfl, .inl ⟨rfl, rfl⟩⟩, fun x hx => (by cases hx), List.Pairwise.nil, Below.refl _ _⟩
  go_upto_region 7 with fail
  go_wp2_with fail
  obtain ⟨wk, hwk⟩ : ∃ wk, wk = wr := ⟨_, rfl⟩
  subst hwk
  go_loopw [7, 8, 9, 10] (fun out i _ _ wr => ∃ (o : Nat) (rs : List NsC), o ≤ x.rows.length ∧ i = iV o ∧ rs.length = o ∧ rs.map (·.ns) = ((x.rows.take o).map (·.ns)).map (·.map (rz by_)) ∧ RwB wk wr out rs) (fun _ i _ _ _ => x.rows.length + 1 - (intOf i).toNat)
  case atStart => exact ⟨0, [], by omega, rfl, rfl, by simp, HR0.out⟩
  case round =>
  obtain ⟨o, rs, ho, rfl, hrl, hrn, hi⟩ := hrel
  clear HR0
  have HJ := Lib.hid hi
  have HRN := Lib.hid hrn
  have HRL := Lib.hid hrl
  clear hi hrn hrl
  have o0 : (0 : Int) ≤ (o : Int) := by omega
  obtain ⟨U, uo, hU, c0⟩ := day_at (HD.out.below (bt HI.out.bel HJ.out.bel)) HXE.out
  have HUE := Lib.hid hU
  rw [hU]
  clear hU
  by_cases hot : o < x.rows.length
  case neg =>
    have o1 : ¬ (o : Int) < (x.rows.length : Int) := by omega
    obtain ⟨q, hq1, hq2, hq3⟩ := day_new (rows := rs) HJ.out.own (by have := HRL.out; have := HXP.out; omega) HJ.out.row
    have HQ1 := Lib.hid hq1
    have HQ3 := Lib.hid hq3
    have HQU : Hid (Incr q.rows) := by show Incr _; rw [hq1]; exact HJ.out.up
    have HI2 := Lib.hid (HI.out.below HJ.out.bel)
    have HLTW : Hid (∀ r ∈ es.flatMap (·.rows), blk r.A < wk.heap.size) := fun r hr => by
      obtain ⟨z, hz, hzr⟩ := List.mem_flatMap.1 hr
      exact ((HI.out.day z hz).2 r hzr).lt.2
    have HBW := Lib.hid HI.out.bel.size
    have hql : rs.length = q.rows.length := by rw [hq1]
    have hv : u7 = slD q := by rw [hq2, hql]
    clear hq1 hq2 hq3 HI
    subst hv
    obtain ⟨ua, uc, rfl⟩ := HI2.out.slice
    have HN := Lib.hid (heap_alloc_new wr (.cells #[slD q] 37))
    have HBN := Lib.hid (ba wr (.cells #[slD q] 37))
    have HSL := Lib.hid HI2.out.bel.size
    have hlen : es.length ≤ 4 := by have := HEL.out; omega
    go_wp2_with (at_builtin; refine wpList_append_lies _ rfl _ _ _ rfl w.heap.size 37 i2 _ 1 24 Tryz.underlying38 hi2 hx0 hx1 hx2 rfl (by omega) _ _ _ rfl (own_below HI2.out.own HBN.out) ⟨wr.heap.size, 0, none⟩ 1 1 [slD q] rfl rfl (fun j u hu => by rw [add_at, Nat.zero_add]; exact (cell_of_row _ _ j _ _ _ HN.out).trans (by simpa using hu)) (fun u hu => by simp at hu; subst hu; rfl) (by omega) (by unfold maxLen; omega) (by omega) (by have := HSL.out; simp; omega) (wr.heap.size + 1) (by simp) ?_; intro g cap w3 own1 hgrow hat hlt9)
    have HI3 := Lib.hid (HI2.out.app HQ3.out HQU.out HLTW.out HBW.out own1 hgrow)
    clear own1 hgrow hat hlt9
    rw [← HUE.out]
    go_wp2_with fail
    go_roundw
    case rel => exact ⟨k + 1, by have := HKT.out; omega, by go_num, es ++ [q], by simp [HEL.out], days_take HXE.out HNU.out (by rw [HQ1.out, HRN.out, List.take_of_length_le (by omega)]), by simpa using HI3.out⟩
    case measure => have := HKT.out; simp [intOf]; omega
  have HOT := Lib.hid hot
  have o1 : (o : Int) < (x.rows.length : Int) := by omega
  obtain ⟨r, hr⟩ : ∃ r, x.rows[o]? = some r := ⟨_, List.getElem?_eq_getElem hot⟩
  have HRE := Lib.hid hr
  obtain ⟨hn0, hn12, hnv⟩ := HXR.out r (List.mem_of_getElem? hr)
  have HNP := Lib.hid hn0
  have HNV := Lib.hid hnv
  clear hr hn0 hnv
  have HN0 : Hid (NB wr wr (.slice none 0 0) []) := ⟨⟨rfl, .inl ⟨rfl, rfl⟩⟩, Below.refl _ _⟩
  go_upto_region 11 with fail
  clear c0
  go_wp2_with fail
  obtain ⟨wo, hwo⟩ : ∃ wo, wo = wr := ⟨_, rfl⟩
  subst hwo
  go_loopw [9, 10] (fun out i wr => ∃ (d : Nat) (l : List Int), d ≤ r.ns.length ∧ i = iV d ∧ l.length = d ∧ l = (r.ns.take d).map (rz by_) ∧ NB wo wr out l) (fun _ i _ => r.ns.length + 1 - (intOf i).toNat)
  case atStart => exact ⟨0, [], by omega, rfl, rfl, by simp, HN0.out⟩
  case round =>
  obtain ⟨d, l, hd, rfl, hll, hln, hi⟩ := hrel
  clear HN0
  have HM := Lib.hid hi
  have HLN := Lib.hid hln
  have HLL := Lib.hid hll
  clear hi hln hll
  have d0 : (0 : Int) ≤ (d : Int) := by omega
  have HDW := Lib.hid (HD.out.below (bt (bt HI.out.bel HJ.out.bel) HM.out.bel))
  have HTW := Lib.hid (HTX.out.below (bt (bt HI.out.bel HJ.out.bel) HM.out.bel))
  obtain ⟨U2, uo2, hU, c0⟩ := day_at HDW.out HXE.out
  rw [HUE.out] at hU
  cases hU
  by_cases hdt : d < r.ns.length
  case neg =>
    have d1 : ¬ (d : Int) < (r.ns.length : Int) := by omega
    obtain ⟨S, so, hA, c1⟩ := row_at HTW.out HRE.out
    have HAE := Lib.hid hA
    rw [hA] at c0
    clear hA
    obtain ⟨q, hq1, hq2, hq3⟩ := row_new (ns := l) HM.out.own (by have := HLL.out; have := HNP.out; omega)
    have HQ1 := Lib.hid hq1
    have HQ3 := Lib.hid hq3
    have HJ2 := Lib.hid (HJ.out.below HM.out.bel)
    have HLTW : Hid (∀ r ∈ rs, blk r.A < wo.heap.size) := fun r hr => (HJ.out.row r hr).lt.2
    have HBW := Lib.hid HJ.out.bel.size
    have hql : l.length = q.ns.length := by rw [hq1]
    have hv : u9 = slI q := by rw [hq2, hql]
    clear hq1 hq2 hq3 HJ HM HDW HTW
    subst hv
    obtain ⟨ua, uc, rfl⟩ := HJ2.out.slice
    have HN := Lib.hid (heap_alloc_new wr (.cells #[slI q] 25))
    have HBN := Lib.hid (ba wr (.cells #[slI q] 25))
    have HSL := Lib.hid HJ2.out.bel.size
    have hlen : rs.length ≤ 12 := by have := HRL.out; omega
    go_wp2_with (at_builtin; refine wpList_append_lies _ rfl _ _ _ rfl wk.heap.size 25 i1 _ 1 24 Tryz.underlying37 hi1 hy0 hy1 hy2 rfl (by omega) _ _ _ rfl (own_below HJ2.out.own HBN.out) ⟨wr.heap.size, 0, none⟩ 1 1 [slI q] rfl rfl (fun j u hu => by rw [add_at, Nat.zero_add]; exact (cell_of_row _ _ j _ _ _ HN.out).trans (by simpa using hu)) (fun u hu => by simp at hu; subst hu; rfl) (by omega) (by unfold maxLen; omega) (by omega) (by have := HSL.out; simp; omega) (wr.heap.size + 1) (by simp) ?_; intro g cap w3 own1 hgrow hat hlt9)
    have HI3 := Lib.hid (HJ2.out.app HQ3.out HLTW.out HBW.out own1 hgrow)
    clear own1 hgrow hat hlt9
    go_wp2_with fail
    go_roundw
    case rel => exact ⟨o + 1, rs ++ [q], by have := HOT.out; omega, by go_num, by simp [HRL.out], rows_take HRE.out HRN.out (by rw [HQ1.out, HLN.out, List.take_of_length_le (by omega)]), by simpa using HI3.out⟩
    case measure => have := HOT.out; simp [intOf]; omega
  have HDT := Lib.hid hdt
  have d1 : (d : Int) < (r.ns.length : Int) := by omega
  obtain ⟨y, hy⟩ : ∃ y, r.ns[d]? = some y := ⟨_, List.getElem?_eq_getElem hdt⟩
  have HYE := Lib.hid hy
  obtain ⟨S, so, T, tt, hA, hB, c1, c2⟩ := tab_at HTW.out HRE.out hy
  have hyv := HNV.out y (List.mem_of_getElem? hy)
  have HAE := Lib.hid hA
  have HBE := Lib.hid hB
  rw [hA] at c0
  rw [hB] at c1
  clear hA hB hy HDW HTW
  obtain ⟨ua, uc, rfl⟩ := HM.out.slice
  have HSL := Lib.hid HM.out.bel.size
  have hlen : l.length ≤ 12 := by have := HLL.out; omega
  have hx12 : x.rows.length ≤ 12 := hxm
  have hr12 : r.ns.length ≤ 12 := hn12
  by_cases hy0 : y < 0
  case pos =>
    have HZ : Hid (rz by_ y = -1) := if_pos hy0
    have HN := Lib.hid (heap_alloc_new wr (.cells #[iV (-1)] 3))
    have HBN := Lib.hid (ba wr (.cells #[iV (-1)] 3))
    go_wp2_with (at_builtin; refine wpList_append_lies _ rfl _ _ _ rfl wo.heap.size 3 i0 _ 1 8 Tryz.underlying25 hi0 hz0 hz1 hz2 rfl (by omega) _ _ _ rfl (own_below HM.out.own HBN.out) ⟨wr.heap.size, 0, none⟩ 1 1 [iV (-1)] rfl rfl (fun j u hu => by rw [add_at, Nat.zero_add]; exact (cell_of_row _ _ j _ _ _ HN.out).trans (by simpa using hu)) (fun u hu => by simp at hu; subst hu; rfl) (by omega) (by unfold maxLen; omega) (by omega) (by have := HSL.out; simp; omega) (wr.heap.size + 1) (by simp) ?_; intro g cap w3 own1 hgrow hat hlt9)
    have HM3 := Lib.hid (HM.out.app own1 hgrow)
    clear own1 hgrow hat hlt9
    go_wp2_with fail
    go_roundw
    case rel => exact ⟨d + 1, l ++ [-1], by have := HDT.out; omega, by go_num, by simp [HLL.out], by rw [← rz_take HYE.out HLN.out, HZ.out], by simpa using HM3.out⟩
    case measure => have := HDT.out; simp [intOf]; omega
  have HZ : Hid (rz by_ y = y + by_) := if_neg hy0
  have HN := Lib.hid (heap_alloc_new wr (.cells #[iV (y + by_)] 3))
  have HBN := Lib.hid (ba wr (.cells #[iV (y + by_)] 3))
  go_wp2_with (at_builtin; refine wpList_append_lies _ rfl _ _ _ rfl wo.heap.size 3 i0 _ 1 8 Tryz.underlying25 hi0 hz0 hz1 hz2 rfl (by omega) _ _ _ rfl (own_below HM.out.own HBN.out) ⟨wr.heap.size, 0, none⟩ 1 1 [iV (y + by_)] rfl rfl (fun j u hu => by rw [add_at, Nat.zero_add]; exact (cell_of_row _ _ j _ _ _ HN.out).trans (by simpa using hu)) (fun u hu => by simp at hu; subst hu; rfl) (by omega) (by unfold maxLen; omega) (by omega) (by have := HSL.out; simp; omega) (wr.heap.size + 1) (by simp) ?_; intro g cap w3 own1 hgrow hat hlt9)
  have HM3 := Lib.hid (HM.out.app own1 hgrow)
  clear own1 hgrow hat hlt9
  go_wp2_with fail
  go_roundw
  case rel => exact ⟨d + 1, l ++ [y + by_], by have := HDT.out; omega, by go_num, by simp [HLL.out], by rw [← rz_take HYE.out HLN.out, HZ.out], by simpa using HM3.out⟩
  case measure => have := HDT.out; simp [intOf]; omega
end Go.Proofs.YtjpabeoflhkfkaaGreatDoor
