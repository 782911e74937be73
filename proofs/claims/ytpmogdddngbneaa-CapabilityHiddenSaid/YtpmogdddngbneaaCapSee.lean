/-
  What the holder of a token sees: the walk.
-/
import Derived.Test.YtpmogdddngbneaaCapSort
namespace Go.Proofs.Ytpmogdddngbneaa
open Go.RowKit Go.Sort Go.Maps

/-- An event as it lies in memory. -/
structure EvC where
  ev : Ev
  A : Option Addr
  c : Nat
deriving Inhabited
def encE (x : EvC) : List Value := [iV x.ev.s.o, iV x.ev.s.lo, iV x.ev.s.hi, .slice x.A x.ev.needs.length x.c]
theorem encE_len (x : EvC) : (encE x).length = 4 := rfl
/-- A list of numbers as it lies in memory. -/
structure NsC where
  ns : List Int
  A : Option Addr
  c : Nat
deriving Inhabited
abbrev slI (x : NsC) : Value := .slice x.A x.ns.length x.c
def Nums (w : World) (A : Option Addr) (ns : List Int) : Prop := Rd w A (ns.map iV) ∧ (∀ n ∈ ns, I64 n) ∧ ns.length ≤ 1000000
def Events (w : World) (A : Option Addr) (es : List EvC) : Prop := Rd w A (es.flatMap encE) ∧ (∀ x ∈ es, x.ev.s.ok ∧ Nums w x.A x.ev.needs) ∧ es.length ≤ 1000000
def Worlds (w : World) (A : Option Addr) (ws : List NsC) : Prop := Rd w A (ws.map slI) ∧ (∀ x ∈ ws, Nums w x.A x.ns) ∧ ws.length ≤ 1000000
theorem Nums.below {w w' : World} {A : Option Addr} {ns : List Int} (h : Nums w A ns) (hb : Below w.heap.size w w') : Nums w' A ns := ⟨h.1.below hb, h.2⟩
theorem Events.below {w w' : World} {A : Option Addr} {es : List EvC} (h : Events w A es) (hb : Below w.heap.size w w') : Events w' A es := ⟨h.1.below hb, fun x hx => ⟨(h.2.1 x hx).1, (h.2.1 x hx).2.below hb⟩, h.2.2⟩
theorem Worlds.below {w w' : World} {A : Option Addr} {es : List NsC} (h : Worlds w A es) (hb : Below w.heap.size w w') : Worlds w' A es := ⟨h.1.below hb, fun x hx => (h.2.1 x hx).below hb, h.2.2⟩
theorem Events.get {w : World} {A : Option Addr} {es : List EvC} (h : Events w A es) {k : Nat} (hk : k < es.length) : ∃ b off, A = some ⟨b, off, none⟩ ∧ b < w.heap.size ∧ w.cell? ⟨b, off + k * 4, none⟩ = some (iV es[k].ev.s.o) ∧ w.cell? ⟨b, off + k * 4 + 1, none⟩ = some (iV es[k].ev.s.lo) ∧ w.cell? ⟨b, off + k * 4 + 2, none⟩ = some (iV es[k].ev.s.hi) ∧ w.cell? ⟨b, off + k * 4 + 3, none⟩ = some (.slice es[k].A es[k].ev.needs.length es[k].c) := by
  obtain ⟨b, off, rfl, hb, hc⟩ := h.1.get (i := k * 4) (by rw [flat_len encE 4 encE_len]; omega)
  refine ⟨b, off, rfl, hb, ?_, ?_, ?_, ?_⟩
  · exact hc (k * 4) _ (by rw [show k * 4 = k * 4 + 0 from rfl, flat_get encE 4 encE_len es k 0 hk (by omega)]; rfl)
  · rw [Nat.add_assoc]; exact hc (k * 4 + 1) _ (by rw [flat_get encE 4 encE_len es k 1 hk (by omega)]; rfl)
  · rw [Nat.add_assoc]; exact hc (k * 4 + 2) _ (by rw [flat_get encE 4 encE_len es k 2 hk (by omega)]; rfl)
  · rw [Nat.add_assoc]; exact hc (k * 4 + 3) _ (by rw [flat_get encE 4 encE_len es k 3 hk (by omega)]; rfl)
abbrev evsOf (es : List EvC) : List Ev := es.map (·.ev)
abbrev nsOf (ws : List NsC) : List (List Int) := ws.map (·.ns)
theorem fnds_take (ws : List (List Int)) (es : List EvC) (k : Nat) (hk : k < es.length) : fnds ws (evsOf (es.take (k + 1))) = fnd ws (fnds ws (evsOf (es.take k))) es[k].ev := by
  unfold fnds
  rw [List.take_succ_eq_append_getElem hk, evsOf, List.map_append, List.foldl_append]; rfl
theorem fnds_ok {ws : List (List Int)} {es : List EvC} (h : ∀ x ∈ es, x.ev.s.ok) (k : Nat) : ∀ s ∈ fnds ws (evsOf (es.take k)), s.ok := by
  intro s hs
  rw [fnds_mem] at hs
  obtain ⟨e, he, rfl, _⟩ := hs
  obtain ⟨x, hx, rfl⟩ := List.mem_map.1 he
  exact h x (List.mem_of_mem_take hx)
theorem sure_no {ws : List NsC} {e : Ev} {j : Nat} (hj : j < ws.length) {m : Nat} (hm : m < ws[j].ns.length) (h : ws[j].ns[m] ∈ e.needs) : sureB (nsOf ws) e = false := by
  unfold sureB
  rw [List.all_eq_false]
  refine ⟨ws[j].ns, List.mem_map.2 ⟨ws[j], List.getElem_mem hj, rfl⟩, ?_⟩
  rw [Bool.not_eq_true, List.all_eq_false]
  exact ⟨_, List.getElem_mem hm, by simpa using h⟩
theorem sure_yes {ws : List NsC} {e : Ev} (h : ∀ r ∈ ws, ∀ n ∈ r.ns, n ∉ e.needs) : sureB (nsOf ws) e = true := by
  unfold sureB
  rw [List.all_eq_true]
  intro l hl
  obtain ⟨r, hr, rfl⟩ := List.mem_map.1 hl
  rw [List.all_eq_true]
  intro n hn
  simpa using h r hr n hn
theorem sset_nil : sset [] = .map [] := rfl
theorem iset_nil : iset [] = .map [] := rfl
theorem sset_snoc (ks : List Sight) (s : Sight) : sset (ks ++ [s]) = (sset ks).put (skey s) (.lit (.bool true)) := by
  unfold sset; rw [List.map_append]; exact setD_snoc _ _
theorem iset_snoc (ks : List Int) (s : Int) : iset (ks ++ [s]) = (iset ks).put (.int .i64 s) (.lit (.bool true)) := by
  unfold iset; rw [List.map_append]; exact setD_snoc _ _
theorem keyOf_i {n : Int} (h : I64 n) : keyOf Try.prog 3 (iV n) = some (.int .i64 n) := by
  have w := wf64 h
  simp [keyOf, Try.underlying3, mapKey, w]
theorem put_below {B b : Nat} {w a c : World} (h : Below B w a) (g : a.grownBy c (some b)) (hb : B ≤ b) (hB : B ≤ a.heap.size) : Below B w c :=
  h.trans ⟨g.os, g.tape, g.output, g.size, fun i hi => g.block i (by omega) (by simp; omega)⟩
set_option maxHeartbeats 1000000 in
set_option maxRecDepth 100000 in
theorem see_bad (s t : Int) (l : List UInt8) (AE AW : Option Addr) (cE cW nE nW : Nat) (w : World) (hs : I64 s) (hl : l.length ≤ 1000) (ht : t ≠ tok s l) :
    Calls Try.prog 11 #[iV s, iV t, sV l, .slice AE nE cE, .slice AW nW cW] w fun e w' => e = .returned (.tuple #[.slice none 0 0, .int .i64 340]) ∧ Below w.heap.size w w' := by
  have CT := Lib.hid (token_any s l w hs hl)
  have h1 : (t != tok s l) = true := by simpa using ht
  generalize tok s l = tk at CT h1
  clear ht
  go_enter Try.func11, Try.ntmps11
  go_wp2
  go_step3
  go_wp2_with (go_at_call 13; refine CT.out.mono ?_; rintro e w1 ⟨rfl, hb1⟩; have HB1 := Lib.hid hb1; clear hb1)
  (try rw [Exit.noGoto_ret])
  go_ret2
  exact ⟨rfl, HB1.out⟩
set_option maxHeartbeats 4000000 in
set_option maxRecDepth 100000 in
theorem see_ok (s : Int) (l : List UInt8) (AE AW : Option Addr) (cE cW : Nat) (evs : List EvC) (ws : List NsC) (w : World) (hs : I64 s) (hl : l.length ≤ 1000) (hE : Events w AE evs) (hW : Worlds w AW ws) :
    Calls Try.prog 11 #[iV s, iV (tok s l), sV l, .slice AE evs.length cE, .slice AW ws.length cW] w fun e w' => ∃ A c o, e = .returned (.tuple #[.slice A (List.length o) c, .int .i64 0]) ∧ Rd w' A (o.flatMap encS) ∧ o.length ≤ 1000000 ∧ Seen (evsOf evs) (nsOf ws) o ∧ Below w.heap.size w w' := by
  have CT := Lib.hid (token_any s l w hs hl)
  have hmm := @run_makeMap Try.prog
  have hle : evs.length ≤ 1000000 := hE.2.2
  have hlw : ws.length ≤ 1000000 := hW.2.2
  have HE := Lib.hid hE; clear hE
  have HW := Lib.hid hW; clear hW
  have h1 : (tok s l != tok s l) = false := by simp
  generalize tok s l = tk at CT h1 ⊢
  by_cases h0 : ws = []
  · subst h0
    go_enter Try.func11, Try.ntmps11
    go_wp2
    go_step3
    go_wp2_with (go_at_call 13; refine CT.out.mono ?_; rintro e w1 ⟨rfl, hb1⟩; have HB1 := Lib.hid hb1; clear hb1)
    (try rw [Exit.noGoto_ret])
    go_ret2
    exact ⟨none, 0, [], rfl, Rd.nil _ _, by simp, seen_none _, HB1.out⟩
  have h2 : ((ws.length : Int) == 0) = false := by
    have : ws.length ≠ 0 := fun h => h0 (List.eq_nil_of_length_eq_zero h)
    simp; exact h0
  have H0 := Lib.hid h0; clear h0
  go_enter Try.func11, Try.ntmps11
  go_wp2
  go_step3
  go_wp2_with (go_at_call 13; refine CT.out.mono ?_; rintro e w1 ⟨rfl, hb1⟩; have HB1 := Lib.hid hb1; clear hb1)
  have hz1 : w.heap.size ≤ w1.heap.size := HB1.out.size
  have HE1 := Lib.hid (HE.out.below HB1.out)
  have HW1 := Lib.hid (HW.out.below HB1.out)
  clear HE HW CT
  go_step3
  go_wp2
  go_loopg [34] evs.length (fun g i wr => ∃ k : Nat, k + g = evs.length ∧ i = iV k ∧ Hid (wr.ownsMap Try.prog 39 (plainElem Try.prog 4) w1.heap.size k (sset (fnds (nsOf ws) (evsOf (evs.take k))))) ∧ Hid (Below w1.heap.size w1 wr) ∧ w1.heap.size < wr.heap.size)
  case atStart => exact ⟨0, by omega, rfl, (World.ownsMap_made w1 _ _ _ : World.ownsMap _ _ _ _ _ _ _), ba w1 _, by simp⟩
  case round =>
    obtain ⟨k, hkg, rfl, HO, HB, hzr⟩ := hrel
    obtain ⟨wo, rfl⟩ : ∃ wo : World, wo = wr := ⟨_, rfl⟩
    by_cases hlt : k < evs.length
    · obtain ⟨b, off, rfl, hb, k0, k1, k2, k3⟩ := (HE1.out.below HB.out).get hlt
      have hok := (HE1.out.2.1 evs[k] (List.getElem_mem hlt)).1
      have hnum := (HE1.out.2.1 evs[k] (List.getElem_mem hlt)).2
      have HF : Hid (fnds (nsOf ws) (evsOf (evs.take (k + 1))) = fnd (nsOf ws) (fnds (nsOf ws) (evsOf (evs.take k))) evs[k].ev) := fnds_take _ _ _ hlt
      have HOK := Lib.hid (fnds_ok (ws := nsOf ws) (es := evs) (fun x hx => (HE1.out.2.1 x hx).1) k)
      generalize evs[k] = ek at *
      obtain ⟨⟨s, ns⟩, An, cn⟩ := ek
      simp only at k0 k1 k2 k3 hok hnum HF
      generalize fnds (nsOf ws) (evsOf (evs.take k)) = acc at *
      have HKs := Lib.hid (keyOf_s hok)
      have HN := Lib.hid hnum
      have hln : ns.length ≤ 1000000 := hnum.2.2
      have Hok := Lib.hid hok
      clear hok hnum
      have i1 : (0 : Int) ≤ (k : Int) := by omega
      have i2 : (k : Int) < (evs.length : Int) := by omega
      have HO2 := Lib.hid ((HO.out.alloc (.cells #[.int .i64 s.o, .int .i64 s.lo, .int .i64 s.hi, .slice An ns.length cn] 42)).alloc (.cells #[.int .i64 s.o, .int .i64 s.lo, .int .i64 s.hi] 39))
      have HB2 : Hid (Below w1.heap.size w1 ((wo.alloc (.cells #[.int .i64 s.o, .int .i64 s.lo, .int .i64 s.hi, .slice An ns.length cn] 42)).alloc (.cells #[.int .i64 s.o, .int .i64 s.lo, .int .i64 s.hi] 39))) := HB.out.trans (((ba wo _).trans ((ba _ _).mono (by simp))).mono HB.out.size)
      by_cases hin : s ∈ acc
      · have HC := Lib.hid ((sset_at HOK.out Hok.out).trans (by rw [decide_eq_true hin]))
        have HF2 : Hid (fnd (nsOf ws) acc ⟨s, ns⟩ = acc) := by show _ = _; unfold fnd; rw [if_pos hin]
        clear hin
        go_wp2_with (at_lookup; go_must (refine wpList_lookup_own_bool _ rfl _ _ 50 rfl 39 4 lawS Try.underlying50 Try.underlying4 (zeroB _) w1.heap.size k _ rfl HO2.out _ _ rfl HKs.out true HC.out ?_))
        go_roundg (evs.length - (k + 1))
        case measure => omega
        case rel => exact ⟨k + 1, by omega, by go_num, by show World.ownsMap _ _ _ _ _ _ _; rw [HF.out, HF2.out]; exact HO2.out.mono (by omega), HB2, by simp; omega⟩
      · have HC := Lib.hid ((sset_at HOK.out Hok.out).trans (by rw [decide_eq_false hin]))
        have HIN := Lib.hid hin
        clear hin
        go_wp2_with (at_lookup; go_must (refine wpList_lookup_own_bool _ rfl _ _ 50 rfl 39 4 lawS Try.underlying50 Try.underlying4 (zeroB _) w1.heap.size k _ rfl HO2.out _ _ rfl HKs.out false HC.out ?_))
        have hsr : w1.heap.size ≤ wo.heap.size := HB.out.size
        have q0 : ((wo.alloc (.cells #[.int .i64 s.o, .int .i64 s.lo, .int .i64 s.hi, .slice An ns.length cn] 42)).alloc (.cells #[.int .i64 s.o, .int .i64 s.lo, .int .i64 s.hi] 39)).heap.size = wo.heap.size + 1 + 1 := by simp
        have c0 := Lib.hid (news_at (wo.alloc (.cells #[.int .i64 s.o, .int .i64 s.lo, .int .i64 s.hi, .slice An ns.length cn] 42)) (encS s) 39 (wo.heap.size + 1) (by simp))
        have HM0 := Lib.hid (World.ownsMap_made ((wo.alloc (.cells #[.int .i64 s.o, .int .i64 s.lo, .int .i64 s.hi, .slice An ns.length cn] 42)).alloc (.cells #[.int .i64 s.o, .int .i64 s.lo, .int .i64 s.hi] 39)) Try.prog 3 (plainElem (H := Unit) Try.prog 4))
        have HBm := Lib.hid (ba ((wo.alloc (.cells #[.int .i64 s.o, .int .i64 s.lo, .int .i64 s.hi, .slice An ns.length cn] 42)).alloc (.cells #[.int .i64 s.o, .int .i64 s.lo, .int .i64 s.hi] 39)) (.map #[] 0))
        have HO3 := Lib.hid (HO2.out.alloc (.map #[] 0))
        rw [q0] at HM0 HBm
        have hW2 := Lib.hid q0
        clear q0
        change Hid (∀ j u, (encS s)[j]? = some u → World.cell? ((wo.alloc (.cells #[.int .i64 s.o, .int .i64 s.lo, .int .i64 s.hi, .slice An ns.length cn] 42)).alloc (.cells #[.int .i64 s.o, .int .i64 s.lo, .int .i64 s.hi] 39)) _ = _) at c0
        generalize ((wo.alloc (.cells #[.int .i64 s.o, .int .i64 s.lo, .int .i64 s.hi, .slice An ns.length cn] 42)).alloc (.cells #[.int .i64 s.o, .int .i64 s.lo, .int .i64 s.hi] 39)) = W2 at *
        clear k0 k1 k2 k3 HO2
        obtain ⟨b2, hb2⟩ : ∃ b2, wo.heap.size + 1 + 1 = b2 := ⟨_, rfl⟩
        have hb2' : wo.heap.size + 1 < b2 := by omega
        rw [hb2] at HM0 HBm hW2 ⊢
        clear hb2
        go_loopg [52] ns.length (fun g i wy => ∃ j : Nat, j + g = ns.length ∧ i = iV j ∧ Hid (wy.ownsMap Try.prog 3 (plainElem Try.prog 4) b2 j (iset (ns.take j))) ∧ Hid (wy.ownsMap Try.prog 39 (plainElem Try.prog 4) w1.heap.size k (sset acc)) ∧ Hid (Below b2 W2 wy) ∧ b2 < wy.heap.size)
        case atStart => exact ⟨0, by omega, rfl, HM0, HO3, HBm, by show b2 < (World.alloc _ _).heap.size; have := hW2.out; simp; omega⟩
        case round =>
          obtain ⟨j, hjg, rfl, HM, HO4, HBy, hzy⟩ := hrel
          obtain ⟨wy, rfl⟩ : ∃ wy : World, wy = wr := ⟨_, rfl⟩
          have HBw : Hid (Below w1.heap.size w1 wy) := HB2.out.trans (HBy.out.mono (by omega))
          by_cases hlj : j < ns.length
          · obtain ⟨b3, o3, rfl, hb3, hc3⟩ := (HN.out.1.below HBw.out).get (i := j) (by simpa using hlj)
            have k4 : wy.cell? ⟨b3, o3 + j, none⟩ = some (iV ns[j]) := hc3 j _ (by simp [hlj])
            clear hc3
            have i3 : (0 : Int) ≤ (j : Int) := by omega
            have i4 : (j : Int) < (ns.length : Int) := by omega
            have HK3 := Lib.hid (keyOf_i (HN.out.2.1 _ (List.getElem_mem hlj)))
            have HT : Hid (ns.take (j + 1) = ns.take j ++ [ns[j]]) := List.take_succ_eq_append_getElem hlj
            generalize ns[j] = nj at *
            go_wp2_with (at_mapUpdate; go_must (refine wpList_mapUpdate_own _ rfl _ _ _ 51 rfl 3 4 lawI Try.underlying51 (plainElem (H := Unit) Try.prog 4) b2 j _ rfl HM.out (by unfold maxLen; omega) _ _ _ rfl rfl HK3.out _ [] (plainElem_bool Try.underlying4 true) ?_); intro w5 hown5 hgrow5; have HM5 := Lib.hid hown5; have HG5 := Lib.hid hgrow5; clear hown5 hgrow5)
            go_roundg (ns.length - (j + 1))
            case measure => omega
            case rel => exact ⟨j + 1, by omega, by go_num, by show World.ownsMap _ _ _ _ _ _ _; rw [HT.out, iset_snoc]; exact HM5.out, HO4.out.kept HG5.out (show some w1.heap.size ≠ some b2 from fun h => by injection h with h; omega), put_below HBy.out HG5.out (Nat.le_refl _) (Nat.le_of_lt hzy), by have := HG5.out.size; omega⟩
          · obtain rfl : j = ns.length := by omega
            rw [List.take_length] at HM
            go_wp2
            go_loopg [61] ws.length (fun g i wz => ∃ j : Nat, j + g = ws.length ∧ i = iV j ∧ wy = wz ∧ Hid (∀ r ∈ ws.take j, ∀ n ∈ r.ns, n ∉ ns))
            case atStart => exact ⟨0, by omega, rfl, rfl, fun r hr => by simp at hr⟩
            case round =>
              obtain ⟨j, hjg2, rfl, rfl, HP⟩ := hrel
              by_cases hlw2 : j < ws.length
              · obtain ⟨b5, o5, rfl, hb5, hc5⟩ := (HW1.out.1.below HBw.out).get (i := j) (by simpa using hlw2)
                have k5 : wy.cell? ⟨b5, o5 + j, none⟩ = some (slI ws[j]) := hc5 j _ (by simp [hlw2])
                have HNj := Lib.hid (HW1.out.2.1 _ (List.getElem_mem hlw2))
                clear hc5
                have i3 : (0 : Int) ≤ (j : Int) := by omega
                have i4 : (j : Int) < (ws.length : Int) := by omega
                have HT : Hid (ws.take (j + 1) = ws.take j ++ [ws[j]]) := List.take_succ_eq_append_getElem hlw2
                have HSN : Hid (∀ m (hm : m < ws[j].ns.length), ws[j].ns[m] ∈ ns → sureB (nsOf ws) ⟨s, ns⟩ = false) := fun m hm h => sure_no hlw2 hm h
                generalize ws[j] = wj at *
                obtain ⟨nj, Aj, cj⟩ := wj
                simp only at HNj HSN
                change wy.cell? ⟨b5, o5 + j, none⟩ = some (.slice Aj nj.length cj) at k5
                have hlnj : nj.length ≤ 1000000 := HNj.out.2.2
                go_wp2
                go_loopg [67] nj.length (fun g i wz => ∃ m : Nat, m + g = nj.length ∧ i = iV m ∧ wy = wz ∧ Hid (∀ n ∈ nj.take m, n ∉ ns))
                case atStart => exact ⟨0, by omega, rfl, rfl, fun r hr => by simp at hr⟩
                case round =>
                  obtain ⟨m, hmg, rfl, rfl, HP2⟩ := hrel
                  by_cases hlm : m < nj.length
                  · obtain ⟨b6, o6, rfl, hb6, hc6⟩ := (HNj.out.1.below HBw.out).get (i := m) (by simpa using hlm)
                    have k6 : wy.cell? ⟨b6, o6 + m, none⟩ = some (iV nj[m]) := hc6 m _ (by simp [hlm])
                    clear hc6
                    have i5 : (0 : Int) ≤ (m : Int) := by omega
                    have i6 : (m : Int) < (nj.length : Int) := by omega
                    have HK6 := Lib.hid (keyOf_i (HNj.out.2.1 _ (List.getElem_mem hlm)))
                    have HT2 : Hid (nj.take (m + 1) = nj.take m ++ [nj[m]]) := List.take_succ_eq_append_getElem hlm
                    have HSm := Lib.hid (HSN.out m hlm)
                    generalize nj[m] = nm at *
                    by_cases hin : nm ∈ ns
                    · have HC2 := Lib.hid ((iset_at ns nm).trans (by rw [decide_eq_true hin]))
                      have HF2 : Hid (fnd (nsOf ws) acc ⟨s, ns⟩ = acc) := by
                        show _ = _
                        unfold fnd
                        rw [if_neg HIN.out, HSm.out hin]; rfl
                      clear hin
                      go_wp2_with (at_lookup; go_must (refine wpList_lookup_own_bool _ rfl _ _ 51 rfl 3 4 lawI Try.underlying51 Try.underlying4 (zeroB _) b2 ns.length _ rfl HM.out _ _ rfl HK6.out true HC2.out ?_))
                      go_roundg (evs.length - (k + 1))
                      case measure => omega
                      case rel => exact ⟨k + 1, by omega, by go_num, by show World.ownsMap _ _ _ _ _ _ _; rw [HF.out, HF2.out]; exact HO4.out.mono (by omega), HBw, by omega⟩
                    · have HC2 := Lib.hid ((iset_at ns nm).trans (by rw [decide_eq_false hin]))
                      have HIN2 := Lib.hid hin
                      clear hin
                      go_wp2_with (at_lookup; go_must (refine wpList_lookup_own_bool _ rfl _ _ 51 rfl 3 4 lawI Try.underlying51 Try.underlying4 (zeroB _) b2 ns.length _ rfl HM.out _ _ rfl HK6.out false HC2.out ?_))
                      go_roundg (nj.length - (m + 1))
                      case measure => omega
                      case rel => exact ⟨m + 1, by omega, by go_num, rfl, fun n hn => by
                        rw [HT2.out] at hn
                        rcases List.mem_append.1 hn with hn | hn
                        · exact HP2.out n hn
                        · rw [List.mem_singleton.1 hn]; exact HIN2.out⟩
                  · obtain rfl : m = nj.length := by omega
                    rw [List.take_length] at HP2
                    go_wp2
                    go_roundg (ws.length - (j + 1))
                    case measure => omega
                    case rel => exact ⟨j + 1, by omega, by go_num, rfl, fun r hr => by
                      rw [HT.out] at hr
                      rcases List.mem_append.1 hr with hr | hr
                      · exact HP.out r hr
                      · rw [List.mem_singleton.1 hr]; exact HP2.out⟩
              · obtain rfl : j = ws.length := by omega
                rw [List.take_length] at HP
                have HF2 : Hid (fnd (nsOf ws) acc ⟨s, ns⟩ = acc ++ [s]) := by
                  show _ = _
                  unfold fnd
                  rw [if_neg HIN.out, if_pos (sure_yes HP.out)]
                have kk : ∀ j u, (encS s)[j]? = some u → wy.cell? ⟨wo.heap.size + 1, 0 + j, none⟩ = some u := fun j u h => by
                  have := c0.out j u h
                  rw [add_at] at this
                  exact (HBy.out.cell (p := ⟨wo.heap.size + 1, 0 + j, none⟩) hb2').trans this
                have k7 : wy.cell? ⟨wo.heap.size + 1, 0, none⟩ = some (iV s.o) := kk 0 _ rfl
                have k8 : wy.cell? ⟨wo.heap.size + 1, 1, none⟩ = some (iV s.lo) := kk 1 _ rfl
                have k9 : wy.cell? ⟨wo.heap.size + 1, 2, none⟩ = some (iV s.hi) := kk 2 _ rfl
                clear kk
                go_wp2_with (at_mapUpdate; go_must (refine wpList_mapUpdate_own _ rfl _ _ _ 50 rfl 39 4 lawS Try.underlying50 (plainElem (H := Unit) Try.prog 4) w1.heap.size k _ rfl HO4.out (by unfold maxLen; omega) _ _ _ rfl rfl HKs.out _ [] (plainElem_bool Try.underlying4 true) ?_); intro w5 hown5 hgrow5; have HM5 := Lib.hid hown5; have HG5 := Lib.hid hgrow5; clear hown5 hgrow5)
                go_roundg (evs.length - (k + 1))
                case measure => omega
                case rel => exact ⟨k + 1, by omega, by go_num, by show World.ownsMap _ _ _ _ _ _ _; rw [HF.out, HF2.out, sset_snoc]; exact HM5.out, put_below HBw.out HG5.out (Nat.le_refl _) (by omega), by have := HG5.out.size; omega⟩
    · obtain rfl : k = evs.length := by omega
      rw [List.take_length] at HO
      have CS := Lib.hid (sorted_any _ _ _ wo HO.out (by have := fnds_ok (ws := nsOf ws) (es := evs) (fun x hx => (HE1.out.2.1 x hx).1) evs.length; rwa [List.take_length] at this) hzr hle)
      go_wp2_with (go_at_call 23; refine CS.out.mono ?_; rintro e w9 ⟨g, c, o, rfl, hrd, hg9, hl9, hst, hmem, hbl⟩; have HF := Lib.hid (And.intro hrd (And.intro hl9 (And.intro hst (And.intro hmem hbl)))); clear hrd hl9 hst hmem hbl hg9)
      (try rw [Exit.noGoto_ret])
      go_ret2
      obtain ⟨hrd, hl9, hst, hmem, hbl⟩ := HF.out
      exact ⟨_, c, o, rfl, hrd, hl9, seen_of (by simpa using H0.out) hst hmem, bt HB1.out ((HB.out.mono (Nat.le_refl _)).trans (hbl.mono (by omega)))⟩
end Go.Proofs.Ytpmogdddngbneaa
