/- The walk over the closure that writes a track as a text. The walk -/
import Derived.Test.YtpeaiphdkgifaaaGreatDoorVbe
import Derived.Test.YtpeaiphdkgifaaaGreatDoorVbi
import Derived.Test.YtpeaiphdkgifaaaGreatDoorVay
import Derived.Test.YtpeaiphdkgifaaaGreatDoorVap
import Derived.Lib.Join
import Derived.Test.YtpeaiphdkgifaaaGreatDoorVaz
namespace Go.Proofs.YtpeaiphdkgifaaaGreatDoor
open Go.RowKit
set_option maxHeartbeats 20000000
set_option maxRecDepth 100000
section
attribute [local go_sem] Oper.semAt_some
def fY (t : Trk) : List (List UInt8) := jh t.lost :: Lib.itoa t.stops.length :: Lib.itoa t.since.length :: (t.stops.flatMap ey ++ (t.since.map Lib.itoa ++ (t.labs ++ t.seals)))
theorem sQ (it : Itm) (a : ItA) : fY (az it a) = bP it := rfl
theorem qd (ws : List (List UInt8)) : Lib.join ws [32] = cr ws := by
 cases ws with
 | nil => rfl
 | cons w ws =>
  rw [Lib.join_cons, cr]
  congr 1
theorem ui {ws : List (List UInt8)} (h : ∀ w ∈ ws, w.length <= 300) : (cr ws).length <= 301 * ws.length := by
 cases ws with
 | nil => simp [cr]
 | cons w ws =>
  have h1 : ∀ l : List (List UInt8), (∀ x ∈ l, x.length <= 300) -> (l.flatMap fun x => (32 : UInt8) :: x).length <= 301 * l.length := by
   intro l
   induction l with
   | nil => intro _; simp
   | cons x l ih =>
    intro hx
    have h2 := ih (fun y hy => hx y (List.mem_cons_of_mem _ hy))
    have h3 := hx x (List.mem_cons_self ..)
    rw [List.flatMap_cons, List.length_append, List.length_cons, List.length_cons]
    omega
  have h2 := h1 ws (fun x hx => h x (List.mem_cons_of_mem _ hx))
  have h3 := h w (List.mem_cons_self ..)
  rw [cr, List.length_append, List.length_cons]
  omega
theorem own_nt {base : Nat} {W : World} {v : Value} {k : Nat} {xs : List Value} (h : W.ownsRow base 9 1 v k xs) {B : Nat} {cs : Array Value} (hB : W.heap[B]? = some (.cells cs 48 (0, 0))) : v.ownBlock ≠ some B := by
 intro e
 rcases h.2 with ⟨rfl, -⟩ | ⟨g, cap, cur, rfl, -, hg, -⟩
 ·cases e
 ·cases e
  rw [hg] at hB
  cases hB
theorem tL {w : World} {base : Nat} {v : Value} {k : Nat} {xs : List Value} (h : w.ownsRow base 9 1 v k xs) (hk : 0 < k) : ∃ g c, v = .slice (some (aV g 0)) k c := by
 rcases h.2 with ⟨-, h⟩ | ⟨g, cap, _, h, -⟩
 ·omega
 ·exact ⟨g, cap, h⟩
theorem sD {w : World} {base : Nat} {v : Value} {ws ys : List (List UInt8)} (h : w.ownsRow base 9 1 v (ws.length + ys.length) (ws.map sV ++ ys.map sV)) : w.ownsRow base 9 1 v (ws ++ ys).length ((ws ++ ys).map sV) := by
 rw [List.length_append, List.map_append]
 exact h
structure j8 (w : World) (X : Nat) (t : Trk) (V : World) (v : Value) (ws : List (List UInt8)) : Prop where
 wds : lM w.heap.size V (X + 1 + 1) v ws
 trk : V.heap[X]? = some (gE t)
 bel : Below w.heap.size w V
theorem j8.below {w : World} {X : Nat} {t : Trk} {V V' : World} {v : Value} {ws : List (List UInt8)} (h : j8 w X t V v ws) (hb : Below V.heap.size V V') : j8 w X t V' v ws :=
 ⟨h.wds.below hb, (hb.block _ (aa h.trk)).trans h.trk, h.bel.trans (hb.mono h.bel.size)⟩
theorem j8.step {w : World} {X : Nat} {t : Trk} {V V' : World} {v v' : Value} {ws ws' : List (List UInt8)} (h : j8 w X t V v ws) (k : lM w.heap.size V' (X + 1 + 1) v' ws') (f : FrB (X + 1 + 1) v v' V V') (b : Below w.heap.size V V') : j8 w X t V' v' ws' :=
 ⟨k, (f.2 X (aa h.trk) (by omega) (own_nt h.wds.own h.trk)).1.trans h.trk, h.bel.trans b⟩
theorem j8.aside {w : World} {X : Nat} {t : Trk} {V : World} {v : Value} {ws : List (List UInt8)} (h : j8 w X t V v ws) (hX : w.heap.size <= X) {xs : List Value} {A : Option Addr} (hr : Rd w A xs) (h0 : 0 < xs.length) : r9 (X + 1 + 1) v A := by
 intro a ha
 obtain ⟨b, o, hA, hb, -⟩ := hr.get h0
 rw [hA] at ha
 cases ha
 refine ⟨by show b ≠ X + 1 + 1; omega, fun e => ?_⟩
 rcases h.wds.own.2 with ⟨h1, -⟩ | ⟨g, _, _, h1, h2, -⟩
 ·rw [h1] at e; cases e
 ·rw [h1] at e
  cases e
  omega
theorem rd_two {W : World} {g : Nat} {a b : Value} {T : TypeId} (h : W.heap[g]? = some (.cells #[a, b] T (0, 0))) : Rd W (some (aV g 0)) [a, b] :=
 .inr ⟨g, 0, rfl, aa h, fun i u hu => by rw [Nat.zero_add]; exact (aA i h).trans (by simpa using hu)⟩
theorem rd_four {W : World} {g : Nat} {a b c d : Value} {T : TypeId} (h : W.heap[g]? = some (.cells #[a, b, c, d] T (0, 0))) : Rd W (some (aV g 0)) [a, b, c, d] :=
 .inr ⟨g, 0, rfl, aa h, fun i u hu => by rw [Nat.zero_add]; exact (aA i h).trans (by simpa using hu)⟩
theorem og {base : Nat} {W : World} {B : Nat} {v : Value} {ws : List (List UInt8)} (h : lM base W B v ws) {g : Nat} (hg : W.heap.size <= g) : r9 B v (some (aV g 0)) := by
 intro a ha
 cases ha
 have h0 := aa h.row
 refine ⟨by show g ≠ B; omega, fun e => ?_⟩
 have e' : v.ownBlock = some g := e
 have := (dY h.own e').2
 omega
theorem mM (b : Bool) (w : World) : Calls Tryz.prog 63 #[.bool b] w fun e w' => e = .returned (sV (jh b)) /\ w' = w := by
 refine (Tryz.strconv_FormatBool b w).mono ?_
 rintro e w' ⟨rfl, rfl⟩
 refine ⟨?_, rfl⟩
 cases b <;> rfl
theorem vZ {base : Nat} (ws : List (List UInt8)) (v : Value) (W : World) (hv : W.ownsRow base 9 1 v ws.length (ws.map sV)) (h0 : 0 < ws.length) (hl : ws.length <= 1000000) (hlen : (cr ws).length <= 140737488355328) :
  Calls Tryz.prog 66 #[v, sV [32]] W fun e w' => e = .returned (sV (cr ws)) /\ Below W.heap.size W w' := by
 rcases hv.2 with ⟨-, h⟩ | ⟨g, cap, cur, rfl, -, hg, hc, -, hz, hx⟩
 ·omega
 ·have e1 : ((ws.map fun l => (⟨l.toArray⟩ : ByteArray)).map (·.data.toList)) = ws := by
   rw [List.map_map]
   conv => rhs; rw [<- List.map_id ws]
   apply List.map_congr_left
   intro l _
   simp
  have h1 := Tryz.strings_Join g 0 cap (ws.map fun l => (⟨l.toArray⟩ : ByteArray)) ⟨[32].toArray⟩ W (fun j x hj => by
   rw [Nat.zero_add]
   have hjl : j < ws.length := by simpa using (aE.1 hj).1
   have h2 : (ws.map sV)[j]? = some (.string x) := by
    rw [aS] at hj ⊢
    rw [aD hjl] at hj ⊢
    simp at hj ⊢
    rw [<- hj]
   rw [<- hx, List.getElem?_take] at h2
   refine (aA j hg).trans ?_
   rw [if_pos (by omega)] at h2
   simpa using h2) (aa hg) (by simp; omega) (by simp; exact hc) (by rw [e1]; show (Lib.join ws [32]).length <= _; rw [qd]; exact hlen)
  rw [e1, show (ByteArray.mk [32].toArray).data.toList = [32] from rfl, qd, List.length_map] at h1
  exact h1
def o9 (t : Trk) : Prop := (∀ s ∈ t.stops, I64 s.office /\ I64 s.arrive /\ I64 s.depart /\ I64 s.line) /\ ∀ x ∈ t.since, I64 x
abbrev wrP (t : Trk) : List (List UInt8) := [jh t.lost, Lib.itoa t.stops.length, Lib.itoa t.since.length]
theorem lU {k : Nat} (h : k <= 1000) : I64 (k : Int) := by unfold I64; omega
theorem nh (t : Trk) : fY t = wrP t ++ t.stops.flatMap ey ++ t.since.map Lib.itoa ++ t.labs ++ t.seals := by
 unfold fY
 simp
theorem qZ (l : List St) {k : Nat} {s : St} (h : l[k]? = some s) : (l.take (k + 1)).flatMap ey = (l.take k).flatMap ey ++ [s.office, s.arrive, s.depart, s.line].map Lib.itoa := by
 rw [List.take_add_one, h, List.flatMap_append]
 rfl
abbrev kL (t : Trk) (g : Nat) : List Obj := [.cells #[sV (jh t.lost)] 9, .cells #[.slice (some (aV g 0)) 1 1] 23]
theorem nf (t : Trk) (w : World) (hT : lK w t) (hpw : PW w) (hs : t.Short) (hv : o9 t) (hlen : (cr (fY t)).length <= 140737488355328) :
  Calls Tryz.prog 62 #[oB t] w fun e w' => e = .returned (sV (cr (fY t))) /\ Below w.heap.size w w' := by
 have HT := aB hT
 have HPW := aB hpw
 have HS := aB hs
 have HV := aB hv
 have HLEN := aB hlen
 clear hT hpw hs hv hlen
 obtain ⟨s0, hs0, hsa, hsb, hsc⟩ := info_parts sm
 have hmf : ∀ (fn : Fn) (first cap : Array Value) (w : World), (Instr.makeFunc fn first cap).run Tryz.prog w = .ok (.func fn first cap) w := fun _ _ _ _ => rfl
 go_enter Tryz.func62, Tryz.ntmps62
 go_upto_region 1 with fail
 have hb5 := ba w (gE t)
 have hg5 := aC w (gE t)
 have hz5 : (w.alloc (gE t)).heap.size = w.heap.size + 1 := aT ..
 change Code.wp _ _ _ _ (w.alloc (gE t))
 generalize w.alloc (gE t) = V1 at *
 obtain ⟨X, hX⟩ : ∃ X, w.heap.size = X := ⟨_, rfl⟩
 have HXW := aB hX
 rw [hX] at hg5 hz5 ⊢
 have HB1 := aB hb5
 have HG1 := aB hg5
 have t6 : V1.cell? (aV X 6) = some (.bool t.lost) := aA 6 hg5
 clear hX hb5 hg5
 have HZ1 := aB hz5
 clear hz5
 go_wp2_with fail
 refine (mM t.lost V1).mono ?_
 rintro e V2 ⟨rfl, rfl⟩
 clear t6
 go_upto_region 2 with fail
 have hb5 := bv (kL t V2.heap.size) V2
 have hg5 := bN (kL t V2.heap.size) V2
 have q0 : (au V2 (kL t V2.heap.size)).heap[V2.heap.size]? = some (.cells #[sV (jh t.lost)] 9) := hg5 0 _ rfl
 have q1 : (au V2 (kL t V2.heap.size)).heap[V2.heap.size + 1]? = some (.cells #[.slice (some (aV V2.heap.size 0)) 1 1] 23) := hg5 1 _ rfl
 change Code.wp _ _ _ _ (au V2 (kL t V2.heap.size))
 generalize au V2 (kL t V2.heap.size) = V3 at *
 rw [HZ1.out] at q0 q1 ⊢
 have HS3 : Hid (j8 w X t V3 (.slice (some (aV (X + 1) 0)) 1 1) [jh t.lost]) := by
  have hbel := HB1.out.trans (hb5.mono HB1.out.size)
  refine ⟨⟨q1, ⟨rfl, .inr ⟨X + 1, 1, #[sV (jh t.lost)], rfl, ?_, q0, aH _, by decide, rfl, rfl⟩⟩, hbel.size⟩, (hb5.block _ (aa HG1.out)).trans HG1.out, hbel⟩
  have := HXW.out
  omega
 clear hb5 hg5 q0 q1
 have t5 : V3.cell? (aV X 5) = some (.slice t.sA t.stops.length t.sC) := aA 5 HS3.out.trk
 have t7 : V3.cell? (aV X 7) = some (.slice t.nA t.since.length t.nC) := aA 7 HS3.out.trk
 go_wp2_with fail
 have hbn := ba V3 (.cells #[iV t.stops.length, iV t.since.length] 3)
 have hS3 := HS3.out.below hbn
 refine (o7 w (X + 1 + 1) _ _ [(t.stops.length : Int), (t.since.length : Int)] 2 rfl (some (aV V3.heap.size 0)) 2 _ hS3.wds (by have := HXW.out; omega) hS3.bel HPW.out (by simp) (rd_two (aC V3 _)) (fun _ => og HS3.out.wds (aH _)) (fun x hx => by
  have h1 := lU HS.out.1
  have h2 := lU HS.out.2.1
  simp at hx
  rcases hx with rfl | rfl
  ·exact h1
  ·exact h2)).mono ?_
 rintro e V4 ⟨rfl, v4, hw4, hf4, hb4⟩
 have HS4 : Hid (j8 w X t V4 v4 (wrP t)) := hS3.step hw4 hf4 hb4
 clear hbn hS3 hw4 hf4 hb4 t5 t7
 have t5 : V4.cell? (aV X 5) = some (.slice t.sA t.stops.length t.sC) := aA 5 HS4.out.trk
 go_wp2_with fail
 go_loopw [6, 24] (fun _ i wr => ∃ (k : Nat) (v : Value), k <= t.stops.length /\ i = iV k /\ Hid (j8 w X t wr v (wrP t ++ (t.stops.take k).flatMap ey))) (fun _ i _ => t.stops.length + 1 - (intOf i).toNat)
 case atStart => exact ⟨0, v4, Nat.zero_le _, rfl, aB (by simpa using HS4.out)⟩
 case round =>
 obtain ⟨k, v, hk, rfl, HK⟩ := hrel
 clear t5 HS3 HS4
 have k0 : (0 : Int) <= (k : Int) := by omega
 have hll := HS.out.1
 by_cases hlt : k < t.stops.length
 case pos =>
  have HLT := aB hlt
  have k1 : (k : Int) < (t.stops.length : Int) := by omega
  obtain ⟨s, hs⟩ : ∃ s, t.stops[k]? = some s := ⟨_, aD hlt⟩
  obtain ⟨-, ab, ao, hA, -, z0, zj⟩ := ay cH (HT.out.st.below HK.out.bel) hs (by omega)
  have c0 : wr.cell? (aV ab (ao + k * 4)) = some (iV s.office) := z0 _ rfl
  have c1 : wr.cell? (aV ab (ao + k * 4 + 1)) = some (iV s.arrive) := zj 1 _ rfl
  have c2 : wr.cell? (aV ab (ao + k * 4 + 2)) = some (iV s.depart) := zj 2 _ rfl
  have c3 : wr.cell? (aV ab (ao + k * 4 + 3)) = some (iV s.line) := zj 3 _ rfl
  have HSE := aB hs
  rw [hA]
  clear z0 zj hA hs hlt
  go_upto_region 7 with fail
  have hb5 := ba wr (.cells #[iV s.office, iV s.arrive, iV s.depart, iV s.line] 50)
  have hg5 := aC wr (.cells #[iV s.office, iV s.arrive, iV s.depart, iV s.line] 50)
  change Code.wp _ _ _ _ (wr.alloc (.cells #[iV s.office, iV s.arrive, iV s.depart, iV s.line] 50))
  generalize wr.alloc (.cells #[iV s.office, iV s.arrive, iV s.depart, iV s.line] 50) = V5 at *
  have HK5 := aB (HK.out.below hb5)
  clear c0 c1 c2 c3 HK hb5
  generalize wr.heap.size = y at *
  have c0 : V5.cell? (aV y 0) = some (iV s.office) := aA 0 hg5
  have c1 : V5.cell? (aV y 1) = some (iV s.arrive) := aA 1 hg5
  have c2 : V5.cell? (aV y 2) = some (iV s.depart) := aA 2 hg5
  have c3 : V5.cell? (aV y 3) = some (iV s.line) := aA 3 hg5
  clear hg5
  go_wp2_with fail
  have hbn := ba V5 (.cells #[iV s.office, iV s.arrive, iV s.depart, iV s.line] 3)
  have hS3 := HK5.out.below hbn
  have hcall := o7 w (X + 1 + 1) v _ [s.office, s.arrive, s.depart, s.line] 4 rfl (some (aV V5.heap.size 0)) 4 _ hS3.wds (by have := HXW.out; omega) hS3.bel HPW.out (by have := HLT.out; have h9 := fg (t.stops.take k); simp only [List.length_append, List.length_cons, List.length_nil, h9, List.length_take]; omega) (rd_four (aC V5 _)) (fun _ => og HK5.out.wds (aH _)) (fun x hx => by
   obtain ⟨h1, h2, h3, h4⟩ := HV.out.1 s (aF HSE.out)
   simp at hx
   rcases hx with rfl | rfl | rfl | rfl
   ·exact h1
   ·exact h2
   ·exact h3
   ·exact h4)
  have HCALL := aB hcall
  clear hcall c0 c1 c2 c3
  with_reducible refine HCALL.out.mono ?_
  rintro e V5 ⟨rfl, v5, hw5, hf5, hb5⟩
  have HS5 : Hid (j8 w X t V5 v5 (wrP t ++ (t.stops.take (k + 1)).flatMap ey)) := by
   rw [qZ _ HSE.out, <- List.append_assoc]
   exact hS3.step hw5 hf5 hb5
  clear hbn hS3 hw5 hf5 hb5
  go_wp2_with fail
  go_roundw
  case rel => exact ⟨k + 1, v5, by have := HLT.out; omega, by go_num, HS5⟩
  case measure => have := HLT.out; simp [intOf]; omega
 case neg =>
  have k1 : ¬ (k : Int) < (t.stops.length : Int) := by omega
  have HK2 : Hid (j8 w X t wr v (wrP t ++ t.stops.flatMap ey)) := by
   have h := HK.out
   rw [List.take_of_length_le (by omega)] at h
   exact h
  clear HK
  have t7 : wr.cell? (aV X 7) = some (.slice t.nA t.since.length t.nC) := aA 7 HK2.out.trk
  go_wp2_with fail
  refine (o7 w (X + 1 + 1) v _ t.since t.since.length rfl t.nA t.nC _ HK2.out.wds (by have := HXW.out; omega) HK2.out.bel HPW.out (by have h9 := fg t.stops; have := HS.out.2.1; simp only [List.length_append, List.length_cons, List.length_nil, h9]; omega) (HT.out.si.below HK2.out.bel) (fun h0 => HK2.out.aside (by have := HXW.out; omega) HT.out.si (by simpa using h0)) HV.out.2).mono ?_
  rintro e V5 ⟨rfl, v5, hw5, hf5, hb5⟩
  have HS5 : Hid (j8 w X t V5 v5 (wrP t ++ t.stops.flatMap ey ++ t.since.map Lib.itoa)) := HK2.out.step hw5 hf5 hb5
  clear hw5 hf5 hb5 t7 HK2
  have hn5 : (wrP t ++ t.stops.flatMap ey ++ t.since.map Lib.itoa).length <= 6000 := by
   have h9 := fg t.stops
   have := HS.out.2.1
   simp only [List.length_append, List.length_cons, List.length_nil, h9, List.length_map]
   omega
  have hp5 : 0 < (wrP t ++ t.stops.flatMap ey ++ t.since.map Lib.itoa).length := by simp
  have HWE : Hid (fY t = wrP t ++ t.stops.flatMap ey ++ t.since.map Lib.itoa ++ t.labs ++ t.seals) := nh t
  generalize wrP t ++ t.stops.flatMap ey ++ t.since.map Lib.itoa = P5 at HS5 hn5 hp5 HWE
  have w5 : V5.cell? (aV (X + 1 + 1) 0) = some v5 := aA 0 HS5.out.wds.row
  have t8 : V5.cell? (aV X 8) = some (.slice t.lA t.labs.length t.lC) := aA 8 HS5.out.trk
  have hl5 := HS.out.2.2.1
  go_upto_region 11 with (at_builtin; go_loud (refine gL _ rfl (.tmp 44) (.tmp 46) _ rfl w.heap.size 9 s0 _ 16 Tryz.underlying23 hs0 hsa hsb hsc rfl v5 _ _ rfl HS5.out.wds.own t.lA t.lC t.labs.length (t.labs.map sV) rfl (by simp) (HT.out.la.below HS5.out.bel) (fun h => ss (h ▸ HT.out.la)) (fun u hu => by obtain ⟨z, -, rfl⟩ := List.mem_map.1 hu; rfl) (by unfold maxLen; omega) (by omega) HS5.out.bel.size ?_; intro v6 w6 own6 hg6 hat6; have own7 : w6.ownsRow w.heap.size 9 1 v6 (P5 ++ t.labs).length ((P5 ++ t.labs).map sV) := sD own6; obtain ⟨g6, d6, rfl⟩ := tL own6 (by omega); obtain ⟨a1, a2, a3, a4⟩ := ng HS5.out.wds (by have := HXW.out; omega) own7 hg6 hat6; have HS6 : Hid (j8 w X t (w6.setCell (aV (X + 1 + 1) 0) (.slice (some (aV g6 0)) (P5.length + t.labs.length) d6)) (.slice (some (aV g6 0)) (P5.length + t.labs.length) d6) (P5 ++ t.labs)) := HS5.out.step a1 a2 a3; have w6c : w6.cell? (aV (X + 1 + 1) 0) = some v5 := aA 0 a4; have f6 : w6.frozen? (aV (X + 1 + 1) 0) = false := ac a4 0; clear own6 hg6 hat6 own7 a1 a2 a3 a4))
  clear w5 t8 w6c f6 hl5
  change Code.wp _ _ _ _ (w6.setCell (aV (X + 1 + 1) 0) (.slice (some (aV g6 0)) (P5.length + t.labs.length) d6))
  generalize w6.setCell (aV (X + 1 + 1) 0) (.slice (some (aV g6 0)) (P5.length + t.labs.length) d6) = V6 at HS6 ⊢
  have w5 : V6.cell? (aV (X + 1 + 1) 0) = some (.slice (some (aV g6 0)) (P5.length + t.labs.length) d6) := aA 0 HS6.out.wds.row
  have t9 : V6.cell? (aV X 9) = some (.slice t.eA t.seals.length t.eC) := aA 9 HS6.out.trk
  have hn6 : (P5 ++ t.labs).length <= 7000 := by
   have := HS.out.2.2.1
   rw [List.length_append]
   omega
  have hl5 := HS.out.2.2.2
  go_wp2_with (at_builtin; go_loud (refine gL _ rfl (.tmp 48) (.tmp 50) _ rfl w.heap.size 9 s0 _ 16 Tryz.underlying23 hs0 hsa hsb hsc rfl (.slice (some (aV g6 0)) (P5.length + t.labs.length) d6) _ _ rfl HS6.out.wds.own t.eA t.eC t.seals.length (t.seals.map sV) rfl (by simp) (HT.out.se.below HS6.out.bel) (fun h => ss (h ▸ HT.out.se)) (fun u hu => by obtain ⟨z, -, rfl⟩ := List.mem_map.1 hu; rfl) (by unfold maxLen; omega) (by omega) HS6.out.bel.size ?_; intro v7 w7 own7 hg7 hat7; have HO7 : Hid (w7.ownsRow w.heap.size 9 1 v7 (fY t).length ((fY t).map sV)) := (by rw [HWE.out]; exact sD own7); have HB7 : Hid (Below w.heap.size w w7) := HS6.out.bel.trans (pj HS6.out.wds hg7); clear own7 hg7 hat7))
  clear w5 t9 hn5 hp5 hn6 hl5
  refine (vZ (fY t) v7 w7 HO7.out (by simp [fY]) (by have h9 := fg t.stops; have := HS.out.1; have := HS.out.2.1; have := HS.out.2.2.1; have := HS.out.2.2.2; rw [nh]; simp only [List.length_append, List.length_cons, List.length_nil, h9, List.length_map]; omega) HLEN.out).mono ?_
  rintro e V8 ⟨rfl, hb⟩
  have HB8 : Hid (Below w.heap.size w V8) := HB7.out.trans (hb.mono HB7.out.size)
  clear hb
  go_wp2_with fail
  go_ret
  exact ⟨rfl, HB8.out⟩
end
section
attribute [local go_sem] Oper.semAt_some
def IdxR (ts : List Trk) (l : List UInt8) (w : World) (e : Ending) (w' : World) : Prop :=
 Below w.heap.size w w' /\ ((e = .returned (iV (-1)) /\ ∀ t ∈ ts, t.post.label ≠ l) ∨ ∃ (i : Nat) (t : Trk), e = .returned (iV i) /\ ts[i]? = some t /\ t.post.label = l /\ ∀ j < i, ∀ u, ts[j]? = some u -> u.post.label ≠ l)
theorem qB (t : Trk) (l : List UInt8) (L : Nat) (w : World) (hL : w.heap[L]? = some (.cells #[sV l] 9 (0, 0))) :
  Calls Tryz.prog 61 #[oB t, .pointer (some (aV L 0))] w fun e w' => e = .returned (.bool (t.post.label == l)) /\ Below w.heap.size w w' := by
 have HL := aB hL
 clear hL
 go_enter Tryz.func61, Tryz.ntmps61
 go_upto_region 1 with fail
 have hb5 := ba w (gE t)
 have hg5 := aC w (gE t)
 change Code.wp _ _ _ _ (w.alloc (gE t))
 have hL5 := (hb5.block _ (aa HL.out)).trans HL.out
 generalize w.alloc (gE t) = V1 at *
 have l0 : V1.cell? (aV L 0) = some (sV l) := aA 0 hL5
 have t0 : V1.cell? (aV w.heap.size 0) = some (sV t.post.label) := aA 0 hg5
 have HB := aB hb5
 clear hb5 hg5 hL5
 by_cases h : t.post.label = l
 ·have e1 : (t.post.label == l) = true := by simpa using h
  have HE := aB e1
  clear h
  go_wp2_with fail
  go_ret
  exact ⟨by rw [HE.out]; rfl, HB.out⟩
 ·have e1 : (t.post.label == l) = false := by simpa using h
  have HE := aB e1
  clear h
  go_wp2_with fail
  go_ret
  exact ⟨by rw [HE.out]; rfl, HB.out⟩
theorem uq (ts : List Trk) (A : Option Addr) (c : Nat) (l : List UInt8) (L : Nat) (w : World) (hA : Rd w A (ts.flatMap jJ)) (hl : ts.length <= 1000) (hL : w.heap[L]? = some (.cells #[sV l] 9 (0, 0))) :
  Calls Tryz.prog 60 #[.slice A ts.length c, .func (.func 61) #[] #[.pointer (some (aV L 0))]] w (IdxR ts l w) := by
 have HA := aB hA
 have HL := aB hL
 clear hA hL
 go_enter Tryz.func60, Tryz.ntmps60
 go_wp2
 go_loopw [5, 8] (fun _ i wr => ∃ k : Nat, k <= ts.length /\ i = iV k /\ Hid (Below w.heap.size w wr) /\ Hid (∀ j < k, ∀ u, ts[j]? = some u -> u.post.label ≠ l)) (fun _ i _ => ts.length + 1 - (intOf i).toNat)
 case atStart => exact ⟨0, Nat.zero_le _, rfl, aB (aJ _ _), aB (fun j h => absurd h (Nat.not_lt_zero _))⟩
 case round =>
 obtain ⟨k, hk, rfl, HB, HN⟩ := hrel
 have k0 : (0 : Int) <= (k : Int) := by omega
 by_cases hlt : k < ts.length
 case neg =>
  have k1 : ¬ (k : Int) < (ts.length : Int) := by omega
  have HK : Hid (k = ts.length) := by show k = ts.length; omega
  clear hlt hk
  go_wp2_with fail
  go_ret
  refine ⟨HB.out, .inl ⟨rfl, fun t ht => ?_⟩⟩
  obtain ⟨j, hj⟩ := List.getElem?_of_mem ht
  exact HN.out j (by rw [HK.out]; exact (aE.1 hj).1) t hj
 have HLT := aB hlt
 have k1 : (k : Int) < (ts.length : Int) := by omega
 obtain ⟨t, ht⟩ : ∃ t, ts[k]? = some t := ⟨_, aD hlt⟩
 obtain ⟨-, ab, ao, hAA, -, y0, yj⟩ := ay eF (HA.out.below HB.out) ht (by omega)
 have z0 : wr.cell? (aV ab (ao + k * 10)) = some (sV t.post.label) := y0 _ rfl
 have z1 : wr.cell? (aV ab (ao + k * 10 + 1)) = some (iV t.post.frm) := yj 1 _ rfl
 have z2 : wr.cell? (aV ab (ao + k * 10 + 2)) = some (iV t.post.dst) := yj 2 _ rfl
 have z3 : wr.cell? (aV ab (ao + k * 10 + 3)) = some (iV t.post.cls) := yj 3 _ rfl
 have z4 : wr.cell? (aV ab (ao + k * 10 + 4)) = some (iV t.post.acc) := yj 4 _ rfl
 have z5 : wr.cell? (aV ab (ao + k * 10 + 5)) = some (.slice t.sA t.stops.length t.sC) := yj 5 _ rfl
 have z6 : wr.cell? (aV ab (ao + k * 10 + 6)) = some (.bool t.lost) := yj 6 _ rfl
 have z7 : wr.cell? (aV ab (ao + k * 10 + 7)) = some (.slice t.nA t.since.length t.nC) := yj 7 _ rfl
 have z8 : wr.cell? (aV ab (ao + k * 10 + 8)) = some (.slice t.lA t.labs.length t.lC) := yj 8 _ rfl
 have z9 : wr.cell? (aV ab (ao + k * 10 + 9)) = some (.slice t.eA t.seals.length t.eC) := yj 9 _ rfl
 have HTE := aB ht
 have HC := aB (qB t l L wr ((HB.out.block _ (aa HL.out)).trans HL.out))
 rw [hAA]
 clear y0 yj hlt hk ht hAA
 go_wp2_with fail
 refine HC.out.mono ?_
 rintro e V2 ⟨rfl, hb⟩
 have HB2 := aB (bt HB.out hb)
 clear hb z0 z1 z2 z3 z4 z5 z6 z7 z8 z9 HC
 by_cases h : t.post.label = l
 ·have e1 : (t.post.label == l) = true := by simpa using h
  have HE := aB h
  rw [e1]
  clear h e1
  go_wp2_with fail
  go_ret
  exact ⟨HB2.out, .inr ⟨k, t, rfl, HTE.out, HE.out, HN.out⟩⟩
 ·have e1 : (t.post.label == l) = false := by simpa using h
  have HE := aB h
  rw [e1]
  clear h e1
  go_wp2_with fail
  go_roundw
  case rel =>
   refine ⟨k + 1, HLT.out, by go_num, HB2, aB (fun j hj u hu => ?_)⟩
   by_cases hjk : j < k
   ·exact HN.out j hjk u hu
   ·obtain rfl : j = k := by omega
    rw [HTE.out] at hu
    cases hu
    exact HE.out
  case measure => have := HLT.out; simp [intOf]; omega
def cG (n : Net) (nx : List NsC) (ds : List Ded) (l : List UInt8) : Bool := match cX n nx ds with
 | none => false
 | some h => match h.items.find? (fun it => it.post.label == l) with
  | none => false
  | some it => match cX n nx [gi it.post] with
   | none => false
   | some g => cr (bP it) == cr (bP (g.items.headD it))
theorem sc {h : List Itm} {As : List ItA} {i : Nat} {t : Trk} (ht : (List.zipWith az h As)[i]? = some t) : ∃ it a, h[i]? = some it /\ As[i]? = some a /\ t = az it a := by
 rw [List.getElem?_zipWith] at ht
 cases h1 : h[i]? with
 | none => rw [h1] at ht; simp at ht
 | some it =>
  cases h2 : As[i]? with
  | none => rw [h1, h2] at ht; simp at ht
  | some a =>
   rw [h1, h2] at ht
   simp at ht
   exact ⟨it, a, rfl, rfl, ht.symm⟩
theorem ox {h : List Itm} {As : List ItA} (hl : As.length = h.length) : (List.zipWith az h As).length = h.length := by
 rw [List.length_zipWith, hl, Nat.min_self]
theorem rI {l : List Itm} {lab : List UInt8} : ∀ {i : Nat} {it : Itm}, l[i]? = some it -> it.post.label = lab -> (∀ j < i, ∀ u, l[j]? = some u -> u.post.label ≠ lab) -> l.find? (fun it => it.post.label == lab) = some it := by
 induction l with
 | nil => intro i it h; simp at h
 | cons x l ih =>
  intro i it h1 h2 h3
  cases i with
  | zero =>
   simp at h1
   subst h1
   rw [List.find?_cons_of_pos (by simpa using h2)]
  | succ i =>
   have hx := h3 0 (by omega) x rfl
   rw [List.find?_cons_of_neg (by simpa using hx)]
   exact ih (by simpa using h1) h2 (fun j hj u hu => h3 (j + 1) (by omega) u (by simpa using hu))
theorem find_no {l : List Itm} {lab : List UInt8} (h : ∀ it ∈ l, it.post.label ≠ lab) : l.find? (fun it => it.post.label == lab) = none := by
 rw [List.find?_eq_none]
 intro x hx
 simpa using h x hx
theorem gk {x : Int} (h : I64 x) : (Lib.itoa x).length <= 300 := by
 have := eo x h
 omega
theorem ny {n : Net} (hG : cY n) : ∀ {l : List St} {es : List (List UInt8)}, fK n l es -> (∀ s ∈ l, I64 s.depart /\ I64 s.line) /\ ∀ e ∈ es, e.length <= 300
 | [s], [], h => ⟨fun x hx => by
   obtain rfl := aR.1 hx
   rw [h.1, h.2]
   exact ⟨by unfold I64; omega, by unfold I64; omega⟩, fun e he => by cases he⟩
 | a :: b :: l, x :: es, h => by
  obtain ⟨h1, h2⟩ := ny hG h.2
  have hl : I64 a.line := by have h4 := hG.few.2.2.1; have h5 := h.1.line; unfold I64; omega
  have hp : I64 a.depart := by have h5 := h.1.dep; unfold I64; omega
  refine ⟨fun s hs => ?_, fun e he => ?_⟩
  ·rcases List.mem_cons.1 hs with rfl | hs
   ·exact ⟨hp, hl⟩
   ·exact h1 s hs
  ·rcases List.mem_cons.1 he with rfl | he
   ·rw [h.1.seal_]
    have a1 := eo _ hl
    have a2 := eo _ hp
    unfold cZ
    simp only [List.length_cons, List.length_append]
    omega
   ·exact h2 e he
theorem qG {n : Net} {nx : List NsC} : ∀ {ds : List Ded} {h a : Hst} {k : Nat}, ei n nx ds h = some a -> iN k h -> iN (k + ds.length) a
 | [], h, a, k, e, H => by
  rw [ei] at e
  cases e
  exact H
 | d :: ds, h, a, k, e, H => by
  rw [ei] at e
  cases hp : cK n nx h.canc d.time h.items h.items with
  | none => rw [hp] at e; cases e
  | some l =>
   rw [hp] at e
   have := qG e ((H.proc hp).act n nx d)
   rw [List.length_cons, show k + (ds.length + 1) = k + 1 + ds.length by omega]
   exact this
theorem run_len {n : Net} {nx : List NsC} {ds : List Ded} {h : Hst} (hr : cX n nx ds = some h) : iN ds.length h := by
 unfold cX at hr
 rw [gQ] at hr
 cases ha : ei n nx ds ⟨[], []⟩ with
 | none => rw [ha] at hr; cases hr
 | some g =>
  rw [ha] at hr
  have h1 := qG (k := 0) ha (fun it h => (by cases h))
  rw [Nat.zero_add] at h1
  cases hp : cK n nx g.canc kI g.items g.items with
  | none => simp [hp] at hr
  | some l =>
   simp [hp] at hr
   subst hr
   exact h1.proc hp
theorem qV {n : Net} {nx : List NsC} (hG : cY n) (hF : bi n nx) {ds : List Ded} {h : Hst} (hr : cX n nx ds = some h) (hd : bK n [] 0 ds) (hl : ds.length <= 50) {it : Itm} (hi : it ∈ h.items) (a : ItA) :
  (az it a).Short /\ o9 (az it a) /\ (cr (fY (az it a))).length <= 140737488355328 := by
 obtain ⟨H, -⟩ := gG hG hF hr hd
 have hI := H.item it hi
 have hL := (run_len hr it hi).2
 obtain ⟨hP, hE⟩ := ny hG hI.path
 have h1 := hI.len
 have h2 := hI.labs.1
 have h4 := ms hI.path
 have hoff := hG.few
 have hS : (az it a).Short := ⟨by show it.stops.length <= 1000; omega, by show it.since.length <= 1000; omega, by show it.labs.length <= 1000; omega, by show it.seals.length <= 1000; omega⟩
 have hV : o9 (az it a) := by
  refine ⟨fun s hs => ?_, fun x hx => ?_⟩
  ·obtain ⟨a1, a2, a3, a4⟩ := hI.offs s hs
   obtain ⟨b1, b2⟩ := hP s hs
   exact ⟨by unfold I64; omega, by unfold I64; omega, b1, b2⟩
  ·have := hI.sin x hx
   unfold I64
   omega
 refine ⟨hS, hV, ?_⟩
 rw [sQ]
 have h5 : ∀ w ∈ bP it, w.length <= 300 := by
  intro w hw
  unfold bP at hw
  simp only [List.mem_cons, List.mem_append] at hw
  rcases hw with rfl | rfl | rfl | hw | hw | hw | hw
  ·unfold jh; split <;> simp
  ·exact gk (lU (by omega))
  ·exact gk (lU (by omega))
  ·obtain ⟨s, hs, hw⟩ := List.mem_flatMap.1 hw
   obtain ⟨a, b, c, d⟩ := hV.1 s hs
   simp only [ey, List.mem_cons, List.not_mem_nil, or_false] at hw
   rcases hw with rfl | rfl | rfl | rfl
   ·exact gk a
   ·exact gk b
   ·exact gk c
   ·exact gk d
  ·obtain ⟨x, hx, rfl⟩ := List.mem_map.1 hw
   exact gk (hV.2 x hx)
  ·have := fE H hi w hw
   unfold gW at this
   simp only [Bool.and_eq_true, decide_eq_true_eq] at this
   omega
  ·exact hE w hw
 have h6 := ui h5
 have h7 : (bP it).length <= 10000 := by
  unfold bP
  have h9 := fg it.stops
  simp only [List.length_append, List.length_cons, h9, List.length_map]
  omega
 omega
abbrev jd (n : Net) (fr till : Int) (A : Option Addr) (len c : Nat) (D : Option Addr) (dl dc : Nat) (l : List UInt8) : List Obj := [ae n, gS fr till A len c D dl dc, .cells #[sV l] 9]
abbrev posO (p : Pst) : Obj := .cells #[sV p.label, iV p.frm, iV p.dst, iV p.cls, iV p.acc] 42
theorem nU (n : Net) (fr till : Int) (nx : List NsC) (nxA : Option Addr) (nxC : Nat) (D : Option Addr) (dl dc : Nat) (DA : Option Addr) (DC : Nat) (ds : List Ded) (lab : List UInt8) (w : World) (hn : bj w n) (hT : Tab w nxA nx) (hK : KW w) (hpw : PW w) (hS : bM n) (hF : bi n nx) (hx : nx.length <= 1000000) (hds : Rd w DA (ds.flatMap eW)) (hd : bK n [] 0 ds) (hl : ds.length <= 50) :
  Calls Tryz.prog 24 #[bB n, dI fr till nxA nx.length nxC D dl dc, .slice DA ds.length DC, sV lab] w fun e w' => e = .returned (.bool (cG n nx ds lab)) /\ Below w.heap.size w w' := by
 have hG : cY n := hS.1.good
 have hbw := bv (jd n fr till nxA nx.length nxC D dl dc lab) w
 have HRUN : Hid (∀ (V : World) (A' : Option Addr) (C' : Nat) (ds' : List Ded), Below w.heap.size w V -> Rd V A' (ds'.flatMap eW) -> bK n [] 0 ds' -> ds'.length <= 50 -> Calls Tryz.prog 13 #[bB n, dI fr till nxA nx.length nxC D dl dc, .slice A' ds'.length C'] V (RunR V n nx ds')) := fun V A' C' ds' hb h1 h2 h3 =>
  oC n fr till nx nxA nxC D dl dc A' C' ds' V (hn.below hb) (hT.below hb) (hK.below hb) (hpw.below hb) hS hF hx h1 h2 h3
 have HDD := aB (And.intro hds (And.intro hd hl))
 have HGF := aB (And.intro hG (And.intro hF hpw))
 clear hn hT hK hpw hS hF hx hds hd hl hG hbw
 have hmf : ∀ (fn : Fn) (first cap : Array Value) (w : World), (Instr.makeFunc fn first cap).run Tryz.prog w = .ok (.func fn first cap) w := fun _ _ _ _ => rfl
 go_enter Tryz.func24, Tryz.ntmps24
 go_upto_region 1 with fail
 have hb5 := bv (jd n fr till nxA nx.length nxC D dl dc lab) w
 have hg5 := bN (jd n fr till nxA nx.length nxC D dl dc lab) w
 have q0 : (au w (jd n fr till nxA nx.length nxC D dl dc lab)).heap[w.heap.size]? = some (ae n) := hg5 0 _ rfl
 have q1 : (au w (jd n fr till nxA nx.length nxC D dl dc lab)).heap[w.heap.size + 1]? = some (gS fr till nxA nx.length nxC D dl dc) := hg5 1 _ rfl
 have q2 : (au w (jd n fr till nxA nx.length nxC D dl dc lab)).heap[w.heap.size + 1 + 1]? = some (.cells #[sV lab] 9) := hg5 2 _ rfl
 change Code.wp _ _ _ _ (au w (jd n fr till nxA nx.length nxC D dl dc lab))
 generalize au w (jd n fr till nxA nx.length nxC D dl dc lab) = V1 at *
 have HB1 := aB hb5
 have HQ : Hid (∀ V, Below V1.heap.size V1 V -> V.heap[w.heap.size]? = some (ae n) /\ V.heap[w.heap.size + 1]? = some (gS fr till nxA nx.length nxC D dl dc) /\ V.heap[w.heap.size + 1 + 1]? = some (.cells #[sV lab] 9) /\ Below w.heap.size w V) := fun V hb => ⟨(hb.block _ (aa q0)).trans q0, (hb.block _ (aa q1)).trans q1, (hb.block _ (aa q2)).trans q2, hb5.trans (hb.mono hb5.size)⟩
 have HC0 : Hid (∀ V : World, V.heap[w.heap.size]? = some (ae n) -> V.heap[w.heap.size + 1]? = some (gS fr till nxA nx.length nxC D dl dc) -> (V.cell? (aV w.heap.size 0) = some (.slice n.calA n.cals.length n.calC) /\ V.cell? (aV w.heap.size 1) = some (.slice n.namA n.names.length n.namC) /\ V.cell? (aV w.heap.size 2) = some (.slice n.opA n.ops.length n.opC) /\ V.cell? (aV w.heap.size 3) = some (.slice n.offA n.offs.length n.offC) /\ V.cell? (aV w.heap.size 4) = some (.slice n.linA n.lins.length n.linC) /\ V.cell? (aV w.heap.size 5) = some (.slice n.clsA n.clss.length n.clsC)) /\ V.cell? (aV (w.heap.size + 1) 0) = some (iV fr) /\ V.cell? (aV (w.heap.size + 1) 1) = some (iV till) /\ V.cell? (aV (w.heap.size + 1) 2) = some (.slice nxA nx.length nxC) /\ V.cell? (aV (w.heap.size + 1) 3) = some (.slice D dl dc)) := fun V h h' => ⟨fj h, aA 0 h', aA 1 h', aA 2 h', aA 3 h'⟩
 obtain ⟨⟨c0, c1, c2, c3, c4, c5⟩, p0, p1, p2, p3⟩ := HC0.out V1 q0 q1
 clear hb5 hg5 q0 q1 q2
 have HXW : Hid (∀ V, Below w.heap.size w V -> V.heap.size = V.heap.size) := fun _ _ => rfl
 go_wp2_with fail
 have hcall := HRUN.out V1 DA DC ds HB1.out (HDD.out.1.below HB1.out) HDD.out.2.1 HDD.out.2.2
 have HCALL := aB hcall
 clear hcall c0 c1 c2 c3 c4 c5 p0 p1 p2 p3
 with_reducible refine HCALL.out.mono ?_
 rintro e V2 ⟨hb, hR⟩
 have HB2 := aB hb
 clear hb HCALL
 rcases hR with ⟨hr, rfl⟩ | ⟨h, As, A, c, hr, hlen, rfl, hrd, htr⟩
 ·have HR : Hid (cG n nx ds lab = false) := by show cG n nx ds lab = false; unfold cG; rw [hr]
  have HBW := aB (HQ.out V2 HB2.out).2.2.2
  clear hr
  go_wp2_with fail
  go_ret
  exact ⟨by rw [HR.out]; rfl, HBW.out⟩
 have HR := aB hr
 have HLN := aB hlen
 have hzl : (List.zipWith az h.items As).length = h.items.length := ox hlen
 have HZL := aB hzl
 have HTR := aB (And.intro hrd htr)
 have hfew : h.items.length <= 50 := by
  have := (gG HGF.out.1 HGF.out.2.1 hr HDD.out.2.1).1.few
  have := HDD.out.2.2
  omega
 have HFEW := aB hfew
 have hidx := uq (List.zipWith az h.items As) A c lab (w.heap.size + 1 + 1) V2 hrd (by rw [hzl]; omega) (HQ.out V2 HB2.out).2.2.1
 rw [hzl] at hidx
 have HIDX := aB hidx
 clear hr hlen hzl hrd htr hfew hidx
 go_wp2_with fail
 with_reducible refine HIDX.out.mono ?_
 rintro e V3 ⟨hb, hi⟩
 have HB3 : Hid (Below V1.heap.size V1 V3) := bt HB2.out hb
 have HB23 := aB hb
 clear hb HIDX
 rcases hi with ⟨rfl, hno⟩ | ⟨i, t, rfl, hti, hlab, hfirst⟩
 ·have HR2 : Hid (cG n nx ds lab = false) := by
   show cG n nx ds lab = false
   unfold cG
   rw [HR.out]
   simp only
   rw [find_no]
   intro it hit
   obtain ⟨j, hj⟩ := List.getElem?_of_mem hit
   have hja : j < As.length := by rw [HLN.out]; exact (aE.1 hj).1
   exact hno (az it As[j]) (aF (i := j) (by rw [List.getElem?_zipWith, hj, aD hja]))
  have HBW := aB (HQ.out V3 HB3.out).2.2.2
  clear hno
  go_wp2_with fail
  go_ret
  exact ⟨by rw [HR2.out]; rfl, HBW.out⟩
 obtain ⟨it, a, hit, hat, rfl⟩ := sc hti
 have hff : h.items.find? (fun x => x.post.label == lab) = some it := rI hit hlab (fun j hj u hu => by
  have hja : j < As.length := by rw [HLN.out]; exact (aE.1 hu).1
  exact hfirst j hj (az u As[j]) (by rw [List.getElem?_zipWith, hu, aD hja]))
 have HFF := aB hff
 have HHIT := aB (aF hit)
 have HTI := aB (And.intro hti (aF hti))
 have hil : i < h.items.length := (aE.1 hit).1
 have i0 : (0 : Int) <= (i : Int) := by omega
 have i1 : (i : Int) < (h.items.length : Int) := by omega
 obtain ⟨-, ab, ao, hAA, hab, y0, yj⟩ := ay eF (HTR.out.1.below HB23.out) hti (by have := HFEW.out; omega)
 have HYJ : Hid (∀ V, Below V3.heap.size V3 V -> (V.cell? (aV ab (ao + i * 10)) = some (sV it.post.label) /\ V.cell? (aV ab (ao + i * 10 + 1)) = some (iV it.post.frm) /\ V.cell? (aV ab (ao + i * 10 + 2)) = some (iV it.post.dst) /\ V.cell? (aV ab (ao + i * 10 + 3)) = some (iV it.post.cls) /\ V.cell? (aV ab (ao + i * 10 + 4)) = some (iV it.post.acc)) /\ (V.cell? (aV ab (ao + i * 10 + 5)) = some (.slice (az it a).sA it.stops.length a.sC) /\ V.cell? (aV ab (ao + i * 10 + 6)) = some (.bool it.lost) /\ V.cell? (aV ab (ao + i * 10 + 7)) = some (.slice (az it a).nA it.since.length a.nC) /\ V.cell? (aV ab (ao + i * 10 + 8)) = some (.slice (az it a).lA it.labs.length a.lC) /\ V.cell? (aV ab (ao + i * 10 + 9)) = some (.slice a.eA it.seals.length a.eC))) := fun V hb =>
  ⟨⟨ag hb (y0 _ rfl), ag hb (yj 1 _ rfl), ag hb (yj 2 _ rfl), ag hb (yj 3 _ rfl), ag hb (yj 4 _ rfl)⟩, ag hb (yj 5 _ rfl), ag hb (yj 6 _ rfl), ag hb (yj 7 _ rfl), ag hb (yj 8 _ rfl), ag hb (yj 9 _ rfl)⟩
 obtain ⟨⟨z0, z1, z2, z3, z4⟩, -⟩ := HYJ.out V3 (aJ _ _)
 have HLAB := aB hlab
 clear hlab hfirst hit hat hti hff hil y0 yj hab
 rw [hAA]
 clear hAA
 go_upto_region 8 with fail
 have hb5 := ba V3 (posO it.post)
 have hg5 := aC V3 (posO it.post)
 change Code.wp _ _ _ _ (V3.alloc (posO it.post))
 generalize V3.alloc (posO it.post) = V4 at *
 have HB4 : Hid (Below V1.heap.size V1 V4) := bt HB3.out hb5
 have HB34 := aB hb5
 obtain ⟨P, hP⟩ : ∃ P, V3.heap.size = P := ⟨_, rfl⟩
 rw [hP] at hg5 ⊢
 clear hP hb5 z0 z1 z2 z3 z4
 obtain ⟨k0, k1, k2, -⟩ := HQ.out V4 HB4.out
 obtain ⟨⟨c0, c1, c2, c3, c4, c5⟩, p0, p1, p2, p3⟩ := HC0.out V4 k0 k1
 have z0 : V4.cell? (aV P 0) = some (sV it.post.label) := aA 0 hg5
 have z1 : V4.cell? (aV P 1) = some (iV it.post.frm) := aA 1 hg5
 have z2 : V4.cell? (aV P 2) = some (iV it.post.dst) := aA 2 hg5
 have z3 : V4.cell? (aV P 3) = some (iV it.post.cls) := aA 3 hg5
 have z4 : V4.cell? (aV P 4) = some (iV it.post.acc) := aA 4 hg5
 clear k0 k1 k2 hg5
 go_wp2_with fail
 have hdb := ba V4 (an (gi it.post))
 have hdg := aC V4 (an (gi it.post))
 have hpd : bK n [] 0 [gi it.post] := pM ((gG HGF.out.1 HGF.out.2.1 HR.out HDD.out.2.1).1.pst it HHIT.out)
 have hcall := HRUN.out (V4.alloc (an (gi it.post))) (some (aV V4.heap.size 0)) 1 [gi it.post] ((HQ.out V4 HB4.out).2.2.2.trans (hdb.mono (HQ.out V4 HB4.out).2.2.2.size)) (.inr ⟨V4.heap.size, 0, rfl, aa hdg, fun j u hu => by rw [Nat.zero_add]; exact (aA j hdg).trans (by simpa [eW] using hu)⟩) hpd (by simp)
 have HCALL := aB hcall
 have HPD := aB hpd
 have HB5 : Hid (Below V1.heap.size V1 (V4.alloc (an (gi it.post)))) := bt HB4.out hdb
 have HB35 : Hid (Below V3.heap.size V3 (V4.alloc (an (gi it.post)))) := bt HB34.out hdb
 clear hcall hpd hdb hdg c0 c1 c2 c3 c4 c5 p0 p1 p2 p3 z0 z1 z2 z3 z4
 change Calls _ _ #[bB n, dI fr till nxA nx.length nxC D dl dc, .slice (some (aV V4.heap.size 0)) [gi it.post].length 1] (V4.alloc (an (gi it.post))) _
 generalize (V4.alloc (an (gi it.post))) = V5 at *
 with_reducible refine HCALL.out.mono ?_
 rintro e V6 ⟨hb, hR⟩
 have HB6 : Hid (Below V1.heap.size V1 V6) := bt HB5.out hb
 have HB36 : Hid (Below V3.heap.size V3 V6) := bt HB35.out hb
 clear hb HCALL
 rcases hR with ⟨hr, rfl⟩ | ⟨g, Bs, B, c', hr, hlen, rfl, hrd, htr⟩
 ·have HR2 : Hid (cG n nx ds lab = false) := by
   show cG n nx ds lab = false
   unfold cG
   rw [HR.out]
   simp only
   rw [HFF.out]
   simp only
   rw [hr]
  have HBW := aB (HQ.out V6 HB6.out).2.2.2
  clear hr
  go_wp2_with fail
  go_ret
  exact ⟨by rw [HR2.out]; rfl, HBW.out⟩
 obtain ⟨x, hgx, -⟩ := mi rfl hr
 have HG1 : Hid (cG n nx ds lab = (cr (bP it) == cr (bP x))) := by
  show cG n nx ds lab = (cr (bP it) == cr (bP x))
  unfold cG
  rw [HR.out]
  simp only
  rw [HFF.out]
  simp only
  rw [hr]
  simp only
  rw [hgx]
  rfl
 rw [hgx] at hlen hrd htr
 obtain ⟨b, rfl⟩ : ∃ b, Bs = [b] := by
  cases Bs with
  | nil => simp at hlen
  | cons b l =>
   cases l with
   | nil => exact ⟨b, rfl⟩
   | cons _ _ => simp at hlen
 rw [hgx]
 obtain ⟨o1, o2, o3⟩ := qV HGF.out.1 HGF.out.2.1 HR.out HDD.out.2.1 HDD.out.2.2 HHIT.out a
 obtain ⟨r1, r2, r3⟩ := qV HGF.out.1 HGF.out.2.1 hr HPD.out (by simp) (it := x) (by rw [hgx]; exact List.mem_cons_self ..) b
 obtain ⟨-, bb, bo, hBB, hbb, x0, xj⟩ := ay eF hrd (i := 0) (x := az x b) rfl (by simp)
 have HD6 : Hid (Below V6.heap.size V6 V6.drew) := al (aJ _ _)
 have HS1 : Hid (∀ W, Below V6.heap.size V6 W -> Calls Tryz.prog 62 #[oB (az it a)] W fun e w' => e = .returned (sV (cr (bP it))) /\ Below W.heap.size W w') := fun W hb =>
  nf (az it a) W ((HTR.out.2 _ HTI.out.2).below (HB23.out.trans ((bt HB36.out hb).mono HB23.out.size))) (HGF.out.2.2.below ((HQ.out V6 HB6.out).2.2.2.trans (hb.mono (HQ.out V6 HB6.out).2.2.2.size))) o1 o2 o3
 have HS2 : Hid (∀ W, Below V6.heap.size V6 W -> Calls Tryz.prog 62 #[oB (az x b)] W fun e w' => e = .returned (sV (cr (bP x))) /\ Below W.heap.size W w') := fun W hb =>
  nf (az x b) W ((htr _ (List.mem_cons_self ..)).below hb) (HGF.out.2.2.below ((HQ.out V6 HB6.out).2.2.2.trans (hb.mono (HQ.out V6 HB6.out).2.2.2.size))) r1 r2 r3
 simp only [Nat.zero_mul, Nat.add_zero] at x0 xj
 have HSW : Hid (∀ w' : World, Below V6.heap.size V6 w' -> (w'.cell? (aV ab (ao + i * 10)) = some (sV it.post.label) /\ w'.cell? (aV ab (ao + i * 10 + 1)) = some (iV it.post.frm) /\ w'.cell? (aV ab (ao + i * 10 + 2)) = some (iV it.post.dst) /\ w'.cell? (aV ab (ao + i * 10 + 3)) = some (iV it.post.cls) /\ w'.cell? (aV ab (ao + i * 10 + 4)) = some (iV it.post.acc) /\ w'.cell? (aV ab (ao + i * 10 + 5)) = some (.slice (az it a).sA it.stops.length a.sC) /\ w'.cell? (aV ab (ao + i * 10 + 6)) = some (.bool it.lost) /\ w'.cell? (aV ab (ao + i * 10 + 7)) = some (.slice (az it a).nA it.since.length a.nC) /\ w'.cell? (aV ab (ao + i * 10 + 8)) = some (.slice (az it a).lA it.labs.length a.lC) /\ w'.cell? (aV ab (ao + i * 10 + 9)) = some (.slice a.eA it.seals.length a.eC) /\ w'.cell? (aV bb bo) = some (sV x.post.label) /\ w'.cell? (aV bb (bo + 1)) = some (iV x.post.frm) /\ w'.cell? (aV bb (bo + 2)) = some (iV x.post.dst) /\ w'.cell? (aV bb (bo + 3)) = some (iV x.post.cls) /\ w'.cell? (aV bb (bo + 4)) = some (iV x.post.acc) /\ w'.cell? (aV bb (bo + 5)) = some (.slice (az x b).sA x.stops.length b.sC) /\ w'.cell? (aV bb (bo + 6)) = some (.bool x.lost) /\ w'.cell? (aV bb (bo + 7)) = some (.slice (az x b).nA x.since.length b.nC) /\ w'.cell? (aV bb (bo + 8)) = some (.slice (az x b).lA x.labs.length b.lC) /\ w'.cell? (aV bb (bo + 9)) = some (.slice b.eA x.seals.length b.eC))) := fun w' hb => by
  obtain ⟨⟨z0, z1, z2, z3, z4⟩, z5, z6, z7, z8, z9⟩ := HYJ.out w' (bt HB36.out hb)
  exact ⟨z0, z1, z2, z3, z4, z5, z6, z7, z8, z9, ag hb (x0 _ rfl), ag hb (xj 1 _ rfl), ag hb (xj 2 _ rfl), ag hb (xj 3 _ rfl), ag hb (xj 4 _ rfl), ag hb (xj 5 _ rfl), ag hb (xj 6 _ rfl), ag hb (xj 7 _ rfl), ag hb (xj 8 _ rfl), ag hb (xj 9 _ rfl)⟩
 have HBW := aB (HQ.out V6 HB6.out).2.2.2
 have HF : Hid True := trivial
 rw [hBB]
 have hone : ([x] : List Itm).length = 1 := rfl
 rw [hone]
 clear hone hBB hbb x0 xj o1 o2 o3 r1 r2 r3 hr hlen hrd htr hgx
 generalize hsx : cr (bP it) = sx at HS1 HG1
 generalize hsy : cr (bP x) = sy at HS2 HG1
 clear hsx hsy
 go_wp2_with fail
 cases hbb : (sx == sy)
 all_goals
  rw [hbb] at HG1
  go_region_held3 (fun w' => w'.cell? (aV ab (ao + i * 10)) = some (sV it.post.label) /\ w'.cell? (aV ab (ao + i * 10 + 1)) = some (iV it.post.frm) /\ w'.cell? (aV ab (ao + i * 10 + 2)) = some (iV it.post.dst) /\ w'.cell? (aV ab (ao + i * 10 + 3)) = some (iV it.post.cls) /\ w'.cell? (aV ab (ao + i * 10 + 4)) = some (iV it.post.acc) /\ w'.cell? (aV ab (ao + i * 10 + 5)) = some (.slice (az it a).sA it.stops.length a.sC) /\ w'.cell? (aV ab (ao + i * 10 + 6)) = some (.bool it.lost) /\ w'.cell? (aV ab (ao + i * 10 + 7)) = some (.slice (az it a).nA it.since.length a.nC) /\ w'.cell? (aV ab (ao + i * 10 + 8)) = some (.slice (az it a).lA it.labs.length a.lC) /\ w'.cell? (aV ab (ao + i * 10 + 9)) = some (.slice a.eA it.seals.length a.eC) /\ w'.cell? (aV bb bo) = some (sV x.post.label) /\ w'.cell? (aV bb (bo + 1)) = some (iV x.post.frm) /\ w'.cell? (aV bb (bo + 2)) = some (iV x.post.dst) /\ w'.cell? (aV bb (bo + 3)) = some (iV x.post.cls) /\ w'.cell? (aV bb (bo + 4)) = some (iV x.post.acc) /\ w'.cell? (aV bb (bo + 5)) = some (.slice (az x b).sA x.stops.length b.sC) /\ w'.cell? (aV bb (bo + 6)) = some (.bool x.lost) /\ w'.cell? (aV bb (bo + 7)) = some (.slice (az x b).nA x.since.length b.nC) /\ w'.cell? (aV bb (bo + 8)) = some (.slice (az x b).lA x.labs.length b.lC) /\ w'.cell? (aV bb (bo + 9)) = some (.slice b.eA x.seals.length b.eC)) (first | (with_reducible exact HSW.out _ HD6.out) | (with_reducible exact HSW.out _ HU1.out) | (with_reducible exact HSW.out _ HU2.out)) (first
   | (go_at_call 62; have hguard := HF.out; refine (HS1.out _ HD6.out).mono ?_; rintro e u1 ⟨rfl, hb1⟩; have HU1 := aB (bt HD6.out hb1); clear HF hb1)
   | (go_at_call 62; refine (HS2.out _ HU1.out).mono ?_; rintro e u2 ⟨rfl, hb2⟩; have HU2 := aB (bt HU1.out hb2); clear hb2)
   | fail)
  go_wp2_with fail
  go_ret
  exact ⟨by rw [HG1.out]; rfl, HBW.out.trans (HU2.out.mono HBW.out.size)⟩
end
end Go.Proofs.YtpeaiphdkgifaaaGreatDoor
